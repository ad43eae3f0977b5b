/- Contracts and laws, part 2 of 3: what each function of the program computes. -/
import Derived.Laws.CopyRow
import Derived.Lib.AppendZerosOnto
import Derived.Lib.Overlaps
import Derived.RangeFuncLeaves
import Derived.RangeFuncSeq
import Derived.Lib.BufferRead
import Derived.Test.YthnabbidlmihbaaGreatDoorM1
/- puny.Encode in plain Lean: what it computes, and the bounds that its walk wants. -/
namespace Go.Proofs.YthnabbidlmihbaaGreatDoor
open Go.RowKit Go.Gp

def b8 (c : Int) : UInt8 := UInt8.ofNat c.toNat
theorem b8_toNat {c : Int} (h : 0 ≤ c) (h2 : c ≤ 255) : ((b8 c).toNat : Int) = c := by
  unfold b8
  rw [UInt8.toNat_ofNat']
  omega
/-- The plain ones. -/
def basics (l : List Int) : List UInt8 := (l.filter fun c => decide (c < 128)).map b8
theorem basics_snoc (l : List Int) (c : Int) : basics (l ++ [c]) = if c < 128 then basics l ++ [b8 c] else basics l := by
  unfold basics
  rw [List.filter_append]
  by_cases h : c < 128
  · simp [h]
  · simp [h]
theorem basics_length (l : List Int) : (basics l).length = l.countP fun c => decide (c < 128) := by simp [basics, List.countP_eq_length_filter]
/-- The least one that is not below n. -/
def minGe (n : Int) (l : List Int) : Int := l.foldl (fun m c => if n ≤ c then min m c else m) 1114111
theorem minGe_snoc (n : Int) (l : List Int) (c : Int) : minGe n (l ++ [c]) = if n ≤ c then min (minGe n l) c else minGe n l := by simp [minGe]
/-- delta, the bias, how many, the text. -/
abbrev ES := Int × Int × Nat × List UInt8
def encStep (n : Int) (basic : Nat) (s : ES) (c : Int) : ES :=
  let d := if c < n then s.1 + 1 else s.1
  if c = n then (0, adaptP d (s.2.2.1 + 1) (decide (s.2.2.1 = basic)), s.2.2.1 + 1, s.2.2.2 ++ numP d s.2.1) else (d, s.2.1, s.2.2.1, s.2.2.2)
def encIn (n : Int) (basic : Nat) (l : List Int) (s : ES) : ES := l.foldl (encStep n basic) s
theorem encIn_snoc (n : Int) (basic : Nat) (l : List Int) (c : Int) (s : ES) : encIn n basic (l ++ [c]) s = encStep n basic (encIn n basic l s) c := by simp [encIn]
def encRound (l : List Int) (basic : Nat) (n : Int) (s : ES) : ES :=
  encIn (minGe n l) basic l (s.1 + (minGe n l - n) * (s.2.2.1 + 1), s.2.1, s.2.2.1, s.2.2.2)
def encOut (l : List Int) (basic : Nat) : Nat → Int → ES → List UInt8
  | 0, _, s => s.2.2.2
  | f + 1, n, s => if s.2.2.1 < l.length then encOut l basic f (minGe n l + 1) ((encRound l basic n s).1 + 1, (encRound l basic n s).2) else s.2.2.2
def encP (l : List Int) : List UInt8 :=
  encOut l (basics l).length (l.length + 1) 128 (0, 72, (basics l).length, if 0 < (basics l).length then basics l ++ [45] else [])

/-- How many are below n. -/
def below (n : Int) (l : List Int) : Nat := l.countP fun c => decide (c < n)
theorem minGe_props (n : Int) (l : List Int) (hl : ∀ c ∈ l, c ≤ 1114111) : minGe n l ≤ 1114111 ∧ (∀ c ∈ l, n ≤ c → minGe n l ≤ c) ∧ (minGe n l ∈ l ∧ n ≤ minGe n l ∨ (minGe n l = 1114111 ∧ ∀ c ∈ l, c < n ∨ c = 1114111)) := by
  have key : ∀ k (l : List Int), l.length = k → (∀ c ∈ l, c ≤ 1114111) → minGe n l ≤ 1114111 ∧ (∀ c ∈ l, n ≤ c → minGe n l ≤ c) ∧ (minGe n l ∈ l ∧ n ≤ minGe n l ∨ (minGe n l = 1114111 ∧ ∀ c ∈ l, c < n ∨ c = 1114111)) := by
    intro k
    induction k with
    | zero =>
      intro l hk _
      have : l = [] := List.eq_nil_of_length_eq_zero hk
      subst this
      exact ⟨by simp [minGe], by simp, .inr ⟨by simp [minGe], by simp⟩⟩
    | succ k ih =>
      intro l hk hl
      rcases List.eq_nil_or_concat l with rfl | ⟨t, u, rfl⟩
      · simp at hk
      · rw [List.concat_eq_append] at hk hl ⊢
        obtain ⟨i1, i2, i3⟩ := ih t (by simpa using hk) (fun c hc => hl c (by simp [hc]))
        have hu := hl u (by simp)
        rw [minGe_snoc]
        by_cases h : n ≤ u
        · rw [if_pos h]
          refine ⟨by omega, fun c hc hn => ?_, ?_⟩
          · rcases List.mem_append.1 hc with hc | hc
            · have := i2 c hc hn; omega
            · rw [List.mem_singleton] at hc; omega
          · left
            rcases i3 with ⟨j1, j2⟩ | ⟨j1, j2⟩
            · by_cases hm : minGe n t ≤ u
              · rw [Int.min_eq_left hm]; exact ⟨by simp [j1], j2⟩
              · rw [Int.min_eq_right (by omega)]; exact ⟨by simp, h⟩
            · rw [Int.min_eq_right (by omega)]; exact ⟨by simp, h⟩
        · rw [if_neg h]
          refine ⟨i1, fun c hc hn => ?_, ?_⟩
          · rcases List.mem_append.1 hc with hc | hc
            · exact i2 c hc hn
            · rw [List.mem_singleton] at hc; omega
          · rcases i3 with ⟨j1, j2⟩ | ⟨j1, j2⟩
            · exact .inl ⟨by simp [j1], j2⟩
            · refine .inr ⟨j1, fun c hc => ?_⟩
              rcases List.mem_append.1 hc with hc | hc
              · exact j2 c hc
              · rw [List.mem_singleton] at hc; omega
  exact key l.length l rfl hl
/-- Where some are left, the least one is there. -/
theorem minGe_mem {n : Int} {l : List Int} (hl : ∀ c ∈ l, c ≤ 1114111) (h : below n l < l.length) : minGe n l ∈ l ∧ n ≤ minGe n l := by
  obtain ⟨h1, h2, h3⟩ := minGe_props n l hl
  rcases h3 with h3 | ⟨h3, h4⟩
  · exact h3
  · have : ∃ c ∈ l, ¬ c < n := by
      refine Classical.byContradiction fun hc => ?_
      have : l.countP (fun c => decide (c < n)) = l.length := by
        rw [List.countP_eq_length]
        intro c hc'
        exact decide_eq_true (Classical.byContradiction fun h => hc ⟨c, hc', h⟩)
      unfold below at h
      omega
    obtain ⟨c, hc, hn⟩ := this
    have hc1 : c = 1114111 := by rcases h4 c hc with h | h <;> omega
    rw [h3, ← hc1]
    exact ⟨hc, by omega⟩
theorem below_min {n : Int} {l : List Int} (hl : ∀ c ∈ l, c ≤ 1114111) (h : n ≤ minGe n l) : below (minGe n l) l = below n l := by
  obtain ⟨h1, h2, _⟩ := minGe_props n l hl
  unfold below
  refine List.countP_congr fun c hc => ?_
  simp only [decide_eq_true_eq]
  constructor
  · intro h5
    refine Classical.byContradiction fun h6 => ?_
    have := h2 c hc (by omega)
    omega
  · intro h5; omega
theorem below_succ (m : Int) (l : List Int) : below (m + 1) l = below m l + l.countP fun c => decide (c = m) := by
  induction l with
  | nil => rfl
  | cons c l ih =>
    unfold below at *
    rw [List.countP_cons, List.countP_cons, List.countP_cons, ih]
    by_cases h1 : c < m
    · simp [h1, show c < m + 1 by omega, show ¬ c = m by omega]; omega
    · by_cases h2 : c = m
      · have a1 : decide (c < m + 1) = true := decide_eq_true (by omega)
        have a2 : decide (c < m) = false := decide_eq_false h1
        have a3 : decide (c = m) = true := decide_eq_true h2
        rw [a1, a2, a3, if_pos rfl, if_neg (by decide : ¬ false = true)]
        omega
      · simp [h1, h2, show ¬ c < m + 1 by omega]
/-- The state inside a round. -/
theorem encIn_props (m : Int) (basic : Nat) (s : ES) (hs : 0 ≤ s.1 ∧ s.1 ≤ 1000000000000) (hb : 0 ≤ s.2.1 ∧ s.2.1 ≤ 1000) : ∀ (k : Nat) (l : List Int), l.length = k → k ≤ 1000000 →
    (0 ≤ (encIn m basic l s).1 ∧ (encIn m basic l s).1 ≤ s.1 + k) ∧ (0 ≤ (encIn m basic l s).2.1 ∧ (encIn m basic l s).2.1 ≤ 1000) ∧ (encIn m basic l s).2.2.1 = s.2.2.1 + l.countP (fun c => decide (c = m)) ∧ (encIn m basic l s).2.2.2.length ≤ s.2.2.2.length + 20 * l.countP (fun c => decide (c = m)) := by
  intro k
  induction k with
  | zero =>
    intro l hk _
    have : l = [] := List.eq_nil_of_length_eq_zero hk
    subst this
    exact ⟨by simp [encIn]; omega, by simp [encIn]; omega, by simp [encIn], by simp [encIn]⟩
  | succ k ih =>
    intro l hk hk2
    rcases List.eq_nil_or_concat l with rfl | ⟨t, u, rfl⟩
    · simp at hk
    · rw [List.concat_eq_append] at hk ⊢
      obtain ⟨i1, i2, i3, i4⟩ := ih t (by simpa using hk) (by omega)
      rw [encIn_snoc, List.countP_append]
      unfold encStep
      dsimp only
      have hd : 0 ≤ (if u < m then (encIn m basic t s).1 + 1 else (encIn m basic t s).1) ∧ (if u < m then (encIn m basic t s).1 + 1 else (encIn m basic t s).1) ≤ s.1 + k + 1 := by split <;> omega
      generalize (if u < m then (encIn m basic t s).1 + 1 else (encIn m basic t s).1) = d at hd
      by_cases hu : u = m
      · rw [if_pos hu]
        have ha := adaptP_bd (delta := d) (many := ((encIn m basic t s).2.2.1 : Int) + 1) (by omega) (decide ((encIn m basic t s).2.2.1 = basic))
        have hn := numL_len (encIn m basic t s).2.1 20 d 36
        refine ⟨by dsimp only; omega, ha, ?_, ?_⟩
        · simp [hu, i3]; omega
        · have e1 : [u].countP (fun c => decide (c = m)) = 1 := by simp [hu]
          simp only [List.length_append, numP, e1]; omega
      · rw [if_neg hu]
        refine ⟨by dsimp only; omega, i2, ?_, ?_⟩
        · simp [hu, i3]
        · have e1 : [u].countP (fun c => decide (c = m)) = 0 := by simp [hu]
          simp only [e1]; omega
end Go.Proofs.YthnabbidlmihbaaGreatDoor

/- The document's small functions of layers 4 and 6: thresholds, the bias, digits, hyphens, plain ones, marks, the least one: the walks. -/
set_option linter.unusedVariables false
namespace Go.Proofs.YthnabbidlmihbaaGreatDoor
open Go.RowKit Go.Gp

set_option maxRecDepth 100000 in
theorem rthr_spec (k bias : Int) (hk : 0 ≤ k ∧ k ≤ 1000000000000 ∧ 0 ≤ bias ∧ bias ≤ 1000000000000) (w0 : World) (m0 : List Res) : PureC Tryz.prog 78 [.int .i64 k, .int .i64 bias] w0 m0 (.int .i64 (thrP k bias)) := by
  refine Ct.of Tryz.func78 rfl (by kernel_rfl) rfl ?_
  by_cases h1 : k ≤ bias
  · rw [show thrP k bias = 1 by unfold thrP; omega]
    (refine c_sq fun k7 h7 => c_rg <| r_as rfl rfl <| r_nx h7 <| c_sq fun k9 h9 => c_sq fun k11 h11 => c_rg <| r_mv rfl rfl <| r_mv rfl rfl <| r_leT rfl rfl rfl (by omega) <| r_nx h11 <| c_cT rfl <| c_sq fun k13 h13 => c_rg <| r_as rfl rfl <| r_nx h13 <| c_rt <| WE.then_r ?_; rotate_left)
    exact WE.ret1 () rfl rfl rfl trivial Mem.drop
  · by_cases h2 : k ≥ bias + 26
    · rw [show thrP k bias = 26 by unfold thrP; omega]
      (refine c_sq fun k8 h8 => c_rg <| r_as rfl rfl <| r_nx h8 <| c_sq fun k10 h10 => c_sq fun k12 h12 => c_rg <| r_mv rfl rfl <| r_mv rfl rfl <| r_leF rfl rfl rfl (by omega) <| r_nx h12 <| c_cF rfl <| c_sk <| WE.then_n h10 <| c_sq fun k14 h14 => c_sq fun k16 h16 => c_rg <| r_mv rfl rfl <| r_mv rfl rfl <| r_ad rfl rfl rfl (wadd64 (by omega)) <| r_geT rfl rfl rfl (by omega) <| r_nx h16 <| c_cT rfl <| c_sq fun k18 h18 => c_rg <| r_as rfl rfl <| r_nx h18 <| c_rt <| WE.then_r ?_; rotate_left)
      exact WE.ret1 () rfl rfl rfl trivial Mem.drop
    · rw [show thrP k bias = k - bias by unfold thrP; omega]
      (refine c_sq fun k8 h8 => c_rg <| r_as rfl rfl <| r_nx h8 <| c_sq fun k10 h10 => c_sq fun k12 h12 => c_rg <| r_mv rfl rfl <| r_mv rfl rfl <| r_leF rfl rfl rfl (by omega) <| r_nx h12 <| c_cF rfl <| c_sk <| WE.then_n h10 <| c_sq fun k14 h14 => c_sq fun k16 h16 => c_rg <| r_mv rfl rfl <| r_mv rfl rfl <| r_ad rfl rfl rfl (wadd64 (by omega)) <| r_geF rfl rfl rfl (by omega) <| r_nx h16 <| c_cF rfl <| c_sk <| WE.then_n h14 <| c_sq fun k18 h18 => c_rg <| r_mv rfl rfl <| r_mv rfl rfl <| r_su rfl rfl rfl (wsub64 (by omega)) <| r_as rfl rfl <| r_nx h18 <| c_rt ?_; rotate_left)
      exact WE.ret1 () rfl rfl rfl trivial Mem.drop
set_option maxRecDepth 100000 in
theorem radapt_spec (delta many : Int) (once : Bool) (h : 0 ≤ delta ∧ delta ≤ 4000000000000000000 ∧ 1 ≤ many) (w0 : World) (m0 : List Res) : PureC Tryz.prog 56 [.int .i64 delta, .int .i64 many, .bool once] w0 m0 (.int .i64 (adaptP delta many once)) := by
  have hf : (456 : Int) * 35 ^ 13 = 53932359308583984375000 := by decide +kernel
  refine Ct.of Tryz.func56 rfl (by kernel_rfl) rfl ?_
  (refine c_sq fun k8 h8 => c_rg <| r_as rfl rfl <| r_nx h8 <| c_sq fun k10 h10 => c_rg <| r_mv rfl rfl <| r_qu rfl rfl rfl (by omega) (wquo64 (by omega)) <| r_as rfl rfl <| r_nx h10 ?_; rotate_left)
  refine WC.cut (α := Unit) (fun _ => [(1, .int .i64 many), (7, .int .i64 (if once then delta / 700 else delta / 2))]) (fun _ => []) (fun _ => True) ?_ ?_
  · cases once
    · (refine c_sq fun k13 h13 => c_rg <| r_mv rfl rfl <| r_nx h13 <| c_cF rfl <| c_sk ?_; rotate_left)
      exact WE.met () trivial ⟨rfl, rfl, trivial⟩ Mem.keep
    · (refine c_sq fun k13 h13 => c_rg <| r_mv rfl rfl <| r_nx h13 <| c_cT rfl <| c_rg <| r_mv rfl rfl <| r_qu rfl rfl rfl (by omega) (wquo64 (by omega)) <| r_as rfl rfl <| r_nl ?_; rotate_left)
      exact WE.met () trivial ⟨rfl, rfl, trivial⟩ Mem.keep
  · rintro _ _
    have hd : 0 ≤ (if once then delta / 700 else delta / 2) ∧ (if once then delta / 700 else delta / 2) ≤ 2000000000000000000 := by split <;> omega
    have eP : adaptP delta many once = (adL 13 ((if once then delta / 700 else delta / 2) + (if once then delta / 700 else delta / 2) / many) 0).2 + 36 * (adL 13 ((if once then delta / 700 else delta / 2) + (if once then delta / 700 else delta / 2) / many) 0).1 / ((adL 13 ((if once then delta / 700 else delta / 2) + (if once then delta / 700 else delta / 2) / many) 0).1 + 38) := rfl
    generalize (if once then delta / 700 else delta / 2) = d0 at hd eP
    have k1 : 0 ≤ d0 / many := Int.ediv_nonneg hd.1 (by omega)
    have k2 : d0 / many ≤ d0 := Int.ediv_le_self _ hd.1
    (refine c_sq fun k19 h19 => c_rg <| r_mv rfl rfl <| r_mv rfl rfl <| r_mv rfl rfl <| r_qu rfl rfl rfl (by omega) (wquo64 (by omega)) <| r_ad rfl rfl rfl (wadd64 (by omega)) <| r_as rfl rfl <| r_nx h19 <| c_sq fun k21 h21 => c_rg <| r_as rfl rfl <| r_nx h21 <| c_sq fun k23 h23 => c_bl ?_; rotate_left)
    refine WC.loop (α := Nat × Int × Int) (fun x => [(7, .int .i64 x.2.1), (8, .int .i64 x.2.2)]) (fun _ => [])
      (fun x => adL x.1 x.2.1 x.2.2 = adL 13 (d0 + d0 / many) 0 ∧ (0 ≤ x.2.1 ∧ x.2.1 ≤ 4000000000000000000) ∧ x.2.1 < 456 * 35 ^ x.1 ∧ 0 ≤ x.2.2 ∧ x.2.2 + 36 * x.1 ≤ 468) (fun x => x.1) (13, d0 + d0 / many, 0) ⟨rfl, by dsimp only; omega, by dsimp only; omega, by dsimp only; omega, by dsimp only; omega⟩ ⟨rfl, rfl, trivial⟩ Mem.keep ?_
    rintro ⟨f, d, k⟩ ⟨e, h1, h2, h3, h4⟩
    dsimp only at e h1 h2 h3 h4 ⊢
    by_cases hlt : 455 < d
    · cases f with
      | zero => simp only [Int.pow_zero, Int.mul_one] at h2; omega
      | succ f =>
        have h5 : d / 35 < 456 * 35 ^ f := by
          rw [Int.pow_succ] at h2
          exact Int.ediv_lt_of_lt_mul (by omega) (by rw [Int.mul_assoc]; exact h2)
        rw [adL, if_pos hlt] at e
        (refine c_sq fun k41 h41 => c_sq fun k43 h43 => c_rg <| r_mv rfl rfl <| r_gtT rfl rfl rfl (by omega) <| r_nx h43 <| c_cT rfl <| c_sk <| WE.then_n h41 <| c_bl <| c_sq fun k45 h45 => c_rg <| r_mv rfl rfl <| r_qu rfl rfl rfl (by omega) (wquo64 (by omega)) <| r_as rfl rfl <| r_nx h45 <| c_rg <| r_mv rfl rfl <| r_ad rfl rfl rfl (wadd64 (by omega)) <| r_as rfl rfl <| r_nl <| WE.blk_n ?_; rotate_left)
        exact WE.back (f, d / 35, k + 36) ⟨e, by dsimp only; omega, h5, by dsimp only; omega, by dsimp only; omega⟩ (by simp) ⟨rfl, rfl, trivial⟩ Mem.keep
    · have e' : adL f d k = (d, k) := by cases f with | zero => rfl | succ f => rw [adL, if_neg hlt]
      have q1 : 0 ≤ 36 * d / (d + 38) := Int.ediv_nonneg (by omega) (by omega)
      have q2 : 36 * d / (d + 38) ≤ 36 := Int.ediv_le_of_le_mul (by omega) (by omega)
      (refine c_sq fun k37 h37 => c_sq fun k39 h39 => c_rg <| r_mv rfl rfl <| r_gtF rfl rfl rfl (by omega) <| r_nx h39 <| c_cF rfl <| c_ex <| WE.then_x <| WE.then_x <| WE.blk_x <| WE.then_n h23 <| c_sq fun k41 h41 => c_rg <| r_mv rfl rfl <| r_mv rfl rfl <| r_mu rfl rfl rfl (wmul64 (by omega)) <| r_mv rfl rfl <| r_ad rfl rfl rfl (wadd64 (by omega)) <| r_qu rfl rfl rfl (by omega) (wquo64 (by omega)) <| r_ad rfl rfl rfl (wadd64 (by omega)) <| r_as rfl rfl <| r_nx h41 <| c_rt ?_; rotate_left)
      exact WE.ret1 () rfl rfl (by rw [eP, ← e, e']; rfl) trivial Mem.drop
set_option maxRecDepth 100000 in
theorem dig_val {n : Int} (h : 0 ≤ n) (h2 : n < 36) : ((dig n).toNat : Int) = if n < 26 then 97 + n else 48 + n - 26 := by
  have key : ∀ i : Fin 36, ((dig (i.1 : Int)).toNat : Int) = if (i.1 : Int) < 26 then 97 + (i.1 : Int) else 48 + (i.1 : Int) - 26 := by decide +kernel
  have := key ⟨n.toNat, by omega⟩
  simp only at this
  rwa [show ((n.toNat : Nat) : Int) = n by omega] at this
set_option maxRecDepth 100000 in
theorem rdigit_spec (n : Int) (h : 0 ≤ n) (h2 : n < 36) (w0 : World) (m0 : List Res) : PureC Tryz.prog 79 [.int .i64 n] w0 m0 (.int .u8 (dig n).toNat) := by
  have hv := dig_val h h2
  refine Ct.of Tryz.func79 rfl (by kernel_rfl) rfl ?_
  by_cases h3 : n < 26
  · rw [if_pos h3] at hv
    rw [hv]
    (refine c_sq fun k9 h9 => c_rg <| r_as rfl rfl <| r_nx h9 <| c_sq fun k11 h11 => c_sq fun k13 h13 => c_rg <| r_mv rfl rfl <| r_ltT rfl rfl rfl (by omega) <| r_nx h13 <| c_cT rfl <| c_sq fun k15 h15 => c_rg <| r_mv rfl rfl <| r_ad rfl rfl rfl (wadd64 (by omega)) <| r_cv rfl (cv_int (k' := .u8) rfl Tryz.underlying5 (w8 (by omega))) rfl <| r_as rfl rfl <| r_nx h15 <| c_rt <| WE.then_r ?_; rotate_left)
    exact WE.ret1 () rfl rfl rfl trivial Mem.drop
  · rw [if_neg h3] at hv
    rw [hv]
    (refine c_sq fun k9 h9 => c_rg <| r_as rfl rfl <| r_nx h9 <| c_sq fun k11 h11 => c_sq fun k13 h13 => c_rg <| r_mv rfl rfl <| r_ltF rfl rfl rfl (by omega) <| r_nx h13 <| c_cF rfl <| c_sk <| WE.then_n h11 <| c_sq fun k15 h15 => c_rg <| r_mv rfl rfl <| r_ad rfl rfl rfl (wadd64 (by omega)) <| r_su rfl rfl rfl (wsub64 (by omega)) <| r_cv rfl (cv_int (k' := .u8) rfl Tryz.underlying5 (w8 (by omega))) rfl <| r_as rfl rfl <| r_nx h15 <| c_rt ?_; rotate_left)
    exact WE.ret1 () rfl rfl rfl trivial Mem.drop
set_option maxRecDepth 100000 in
theorem val_law (c : UInt8) : valD (lowB c) = if 97 ≤ c.toNat ∧ c.toNat ≤ 122 then (c.toNat : Int) - 97 else if 65 ≤ c.toNat ∧ c.toNat ≤ 90 then (c.toNat : Int) - 65 else if 48 ≤ c.toNat ∧ c.toNat ≤ 57 then (c.toNat : Int) - 48 + 26 else -1 := by
  have key : ∀ i : Fin 256, valD (lowB (UInt8.ofNat i.1)) = if 97 ≤ (UInt8.ofNat i.1).toNat ∧ (UInt8.ofNat i.1).toNat ≤ 122 then ((UInt8.ofNat i.1).toNat : Int) - 97 else if 65 ≤ (UInt8.ofNat i.1).toNat ∧ (UInt8.ofNat i.1).toNat ≤ 90 then ((UInt8.ofNat i.1).toNat : Int) - 65 else if 48 ≤ (UInt8.ofNat i.1).toNat ∧ (UInt8.ofNat i.1).toNat ≤ 57 then ((UInt8.ofNat i.1).toNat : Int) - 48 + 26 else -1 := by decide +kernel
  have := key ⟨c.toNat, c.toNat_lt⟩
  simpa using this
set_option maxRecDepth 100000 in
theorem rvalue_spec (c : UInt8) (w0 : World) (m0 : List Res) : PureC Tryz.prog 92 [.int .u8 c.toNat] w0 m0 (.int .i64 (valD (lowB c))) := by
  have hc := c.toNat_lt
  refine Ct.of Tryz.func92 rfl (by kernel_rfl) rfl ?_
  (refine c_sq fun k5 h5 => c_rg <| r_as rfl rfl <| r_nx h5 <| c_sq fun k7 h7 => c_sq fun k9 h9 => c_rg <| r_mv rfl rfl <| r_geC rfl rfl rfl (fun _ => ?_) (fun _ => ?_); refine r_mv rfl rfl <| r_mv rfl rfl <| r_leC rfl rfl rfl (fun _ => ?_) (fun _ => ?_); refine r_pT rfl rfl rfl <| r_nx h9 <| c_cT rfl <| c_sq fun k13 h13 => c_rg <| r_mv rfl rfl <| r_cv rfl (cv_int (k' := .i64) rfl Tryz.underlying3 (w64 (by omega))) rfl <| r_su rfl rfl rfl (wsub64 (by omega)) <| r_as rfl rfl <| r_nx h13 <| c_rt <| WE.then_r ?_; rotate_left; refine r_pT rfl rfl rfl <| r_nx h9 <| c_cF rfl <| c_sk <| WE.then_n h7 <| c_sq fun k13 h13 => c_sq fun k15 h15 => c_rg <| r_mv rfl rfl <| r_geT rfl rfl rfl (by omega) <| r_mv rfl rfl <| r_mv rfl rfl <| r_leF rfl rfl rfl (by omega) <| r_pT rfl rfl rfl <| r_nx h15 <| c_cF rfl <| c_sk <| WE.then_n h13 <| c_sq fun k17 h17 => c_sq fun k19 h19 => c_rg <| r_mv rfl rfl <| r_geT rfl rfl rfl (by omega) <| r_mv rfl rfl <| r_mv rfl rfl <| r_leF rfl rfl rfl (by omega) <| r_pT rfl rfl rfl <| r_nx h19 <| c_cF rfl <| c_sk <| WE.then_n h17 <| c_sq fun k21 h21 => c_rg <| r_as rfl rfl <| r_nx h21 <| c_rt ?_; rotate_left; refine r_mv rfl rfl <| r_sk rfl rfl <| r_sk rfl rfl <| r_pF rfl rfl rfl <| r_nx h9 <| c_cF rfl <| c_sk <| WE.then_n h7 <| c_sq fun k12 h12 => c_sq fun k14 h14 => c_rg <| r_mv rfl rfl <| r_geC rfl rfl rfl (fun _ => ?_) (fun _ => ?_); refine r_mv rfl rfl <| r_mv rfl rfl <| r_leC rfl rfl rfl (fun _ => ?_) (fun _ => ?_); refine r_pT rfl rfl rfl <| r_nx h14 <| c_cT rfl <| c_sq fun k18 h18 => c_rg <| r_mv rfl rfl <| r_cv rfl (cv_int (k' := .i64) rfl Tryz.underlying3 (w64 (by omega))) rfl <| r_su rfl rfl rfl (wsub64 (by omega)) <| r_as rfl rfl <| r_nx h18 <| c_rt <| WE.then_r ?_; rotate_left; refine r_pT rfl rfl rfl <| r_nx h14 <| c_cF rfl <| c_sk <| WE.then_n h12 <| c_sq fun k18 h18 => c_sq fun k20 h20 => c_rg <| r_mv rfl rfl <| r_geT rfl rfl rfl (by omega) <| r_mv rfl rfl <| r_mv rfl rfl <| r_leF rfl rfl rfl (by omega) <| r_pT rfl rfl rfl <| r_nx h20 <| c_cF rfl <| c_sk <| WE.then_n h18 <| c_sq fun k22 h22 => c_rg <| r_as rfl rfl <| r_nx h22 <| c_rt ?_; rotate_left; refine r_mv rfl rfl <| r_sk rfl rfl <| r_sk rfl rfl <| r_pF rfl rfl rfl <| r_nx h14 <| c_cF rfl <| c_sk <| WE.then_n h12 <| c_sq fun k17 h17 => c_sq fun k19 h19 => c_rg <| r_mv rfl rfl <| r_geC rfl rfl rfl (fun _ => ?_) (fun _ => ?_); refine r_mv rfl rfl <| r_mv rfl rfl <| r_leC rfl rfl rfl (fun _ => ?_) (fun _ => ?_); refine r_pT rfl rfl rfl <| r_nx h19 <| c_cT rfl <| c_sq fun k23 h23 => c_rg <| r_mv rfl rfl <| r_cv rfl (cv_int (k' := .i64) rfl Tryz.underlying3 (w64 (by omega))) rfl <| r_su rfl rfl rfl (wsub64 (by omega)) <| r_ad rfl rfl rfl (wadd64 (by omega)) <| r_as rfl rfl <| r_nx h23 <| c_rt <| WE.then_r ?_; rotate_left; refine r_pT rfl rfl rfl <| r_nx h19 <| c_cF rfl <| c_sk <| WE.then_n h17 <| c_sq fun k23 h23 => c_rg <| r_as rfl rfl <| r_nx h23 <| c_rt ?_; rotate_left; refine r_mv rfl rfl <| r_sk rfl rfl <| r_sk rfl rfl <| r_pF rfl rfl rfl <| r_nx h19 <| c_cF rfl <| c_sk <| WE.then_n h17 <| c_sq fun k22 h22 => c_rg <| r_as rfl rfl <| r_nx h22 <| c_rt ?_; rotate_left)
  all_goals
    first
    | exact WE.ret1 () rfl rfl (by rw [val_law c, if_pos (by omega)]; rfl) trivial Mem.drop
    | exact WE.ret1 () rfl rfl (by rw [val_law c, if_neg (by omega), if_pos (by omega)]; rfl) trivial Mem.drop
    | exact WE.ret1 () rfl rfl (by rw [val_law c, if_neg (by omega), if_neg (by omega), if_pos (by omega)]; rfl) trivial Mem.drop
    | exact WE.ret1 () rfl rfl (by rw [val_law c, if_neg (by omega), if_neg (by omega), if_neg (by omega)]; rfl) trivial Mem.drop
set_option maxRecDepth 100000 in
theorem rhyphen_spec (s : ByteArray) (hn : s.size ≤ 9000000000000000000) (w0 : World) (m0 : List Res) : PureC Tryz.prog 75 [.string s] w0 m0 (.int .i64 (lastL s.data.toList 45 s.size)) := by
  refine Ct.of Tryz.func75 rfl (by kernel_rfl) rfl ?_
  (refine c_sq fun k5 h5 => c_rg <| r_as rfl rfl <| r_nx h5 <| c_sq fun k7 h7 => c_sq fun k9 h9 => c_rg <| r_mv rfl rfl <| r_lS Tryz.underlying9 rfl rfl <| r_su rfl rfl rfl (wsub64 (by omega)) <| r_as rfl rfl <| r_nx h9 <| c_bl ?_; rotate_left)
  refine WC.loop (α := Nat) (fun k => [(0, .string s), (3, .int .i64 ((k : Int) - 1))]) (fun _ => []) (fun k => k ≤ s.size ∧ lastL s.data.toList 45 k = lastL s.data.toList 45 s.size) (fun k => k) s.size ⟨Nat.le_refl _, rfl⟩ ⟨rfl, rfl, trivial⟩ Mem.keep ?_
  rintro k ⟨hk, e⟩
  cases k with
  | zero =>
    (refine c_sq fun k13 h13 => c_sq fun k15 h15 => c_rg <| r_mv rfl rfl <| r_geF rfl rfl rfl (by omega) <| r_nx h15 <| c_cF rfl <| c_ex <| WE.then_x <| WE.then_x <| WE.blk_x <| WE.then_n h7 <| c_sq fun k17 h17 => c_rg <| r_as rfl rfl <| r_nx h17 <| c_rt ?_; rotate_left)
    exact WE.ret1 () rfl rfl (by rw [← e]; rfl) trivial Mem.drop
  | succ k =>
    have hlt : k < s.data.size := hk
    have e1 : ((k + 1 : Nat) : Int) - 1 = (k : Int) := by omega
    rw [lastL] at e
    rw [e1]
    (refine c_sq fun k20 h20 => c_sq fun k22 h22 => c_rg <| r_mv rfl rfl <| r_geT rfl rfl rfl (by omega) <| r_nx h22 <| c_cT rfl <| c_sk <| WE.then_n h20 <| c_sq fun k24 h24 => c_bl <| c_sq fun k26 h26 => c_rg <| r_mv rfl rfl <| r_mv rfl rfl ?_; rotate_left)
    refine r_iS (v := s.data.toList.getD k 0) Tryz.underlying9 rfl rfl rfl (by omega) (byte_at s hlt) ?_
    by_cases hc : s.data.toList.getD k 0 = 45
    · rw [if_pos hc] at e
      have hc2 : ((s.data.toList.getD k 0).toNat : Int) = 45 := by rw [hc]; rfl
      (refine r_eqT rfl rfl rfl (by omega) <| r_nx h26 <| c_cT rfl <| c_sq fun k31 h31 => c_rg <| r_mv rfl rfl <| r_as rfl rfl <| r_nx h31 <| c_rt <| WE.blk_r <| WE.then_r <| WE.then_r <| WE.blk_r <| WE.then_r ?_; rotate_left)
      exact WE.ret1 () rfl rfl (by rw [← e]; rfl) trivial Mem.drop
    · rw [if_neg hc] at e
      have hc2 : ¬ ((s.data.toList.getD k 0).toNat : Int) = 45 := fun h => hc (UInt8.toNat_inj.1 (by
        have : (45 : UInt8).toNat = 45 := rfl
        omega))
      (refine r_eqF rfl rfl rfl (by omega) <| r_nx h26 <| c_cF rfl <| c_sk <| WE.blk_n <| WE.then_n h24 <| c_rg <| r_mv rfl rfl <| r_su rfl rfl rfl (wsub64 (by omega)) <| r_as rfl rfl <| r_nl ?_; rotate_left)
      exact WE.back k ⟨by omega, e⟩ (by omega) ⟨rfl, rfl, trivial⟩ Mem.keep
set_option maxRecDepth 100000 in
theorem rplain_spec (A : Option Addr) (c : Nat) (l : List Int) (hn : l.length ≤ 9000000000000000000) (w0 : World) (m0 : List Res) (hA : Rd w0 m0 A (runes l)) : PureC Tryz.prog 24 [.slice A l.length c] w0 m0 (.bool (!l.any (fun c => decide (128 ≤ c)))) := by
  refine Ct.of Tryz.func24 rfl (by kernel_rfl) rfl ?_
  (refine c_sq fun k8 h8 => c_rg <| r_as rfl rfl <| r_nx h8 <| c_sq fun k10 h10 => c_sq fun k12 h12 => c_rg <| r_as rfl rfl <| r_nx h12 <| c_bl ?_; rotate_left)
  refine WC.loop (α := Nat) (fun i => [(0, .slice A l.length c), (3, .int .i64 i)]) (fun _ => []) (fun i => i ≤ l.length ∧ ∀ j, j < i → ¬ 128 ≤ l.getD j 0) (fun i => l.length - i) 0 ⟨by omega, by omega⟩ ⟨rfl, rfl, trivial⟩ Mem.keep ?_
  rintro i ⟨hi, hb⟩
  by_cases hlt : i < l.length
  · by_cases h : 128 ≤ l.getD i 0
    · have e : l.any (fun c => decide (128 ≤ c)) = true := by
        rw [List.any_eq_true]
        exact ⟨l.getD i 0, by simp [hlt], decide_eq_true h⟩
      (refine c_sq fun k20 h20 => c_sq fun k22 h22 => c_rg <| r_mv rfl rfl <| r_mv rfl rfl <| r_ls Tryz.underlying22 rfl rfl <| r_ltT rfl rfl rfl (by omega) <| r_nx h22 <| c_cT rfl <| c_sk <| WE.then_n h20 <| c_sq fun k24 h24 => c_bl <| c_sq fun k26 h26 => c_rg <| r_mv rfl rfl <| r_mv rfl rfl <| r_im (hA.app _) Tryz.underlying22 (by kernel_rfl) rfl rfl rfl rfl (by omega) (by omega) <| r_li (i) (hA.app _) Tryz.underlying21 rfl rfl rfl (by omega) <| r_geT rfl rfl rfl (by omega) <| r_nx h26 <| c_cT rfl <| c_sq fun k28 h28 => c_rg <| r_as rfl rfl <| r_nx h28 <| c_rt <| WE.blk_r <| WE.then_r <| WE.then_r <| WE.blk_r <| WE.then_r ?_; rotate_left)
      exact WE.ret1 () rfl rfl (by rw [e]; rfl) trivial Mem.drop
    · (refine c_sq fun k19 h19 => c_sq fun k21 h21 => c_rg <| r_mv rfl rfl <| r_mv rfl rfl <| r_ls Tryz.underlying22 rfl rfl <| r_ltT rfl rfl rfl (by omega) <| r_nx h21 <| c_cT rfl <| c_sk <| WE.then_n h19 <| c_sq fun k23 h23 => c_bl <| c_sq fun k25 h25 => c_rg <| r_mv rfl rfl <| r_mv rfl rfl <| r_im (hA.app _) Tryz.underlying22 (by kernel_rfl) rfl rfl rfl rfl (by omega) (by omega) <| r_li (i) (hA.app _) Tryz.underlying21 rfl rfl rfl (by omega) <| r_geF rfl rfl rfl (by omega) <| r_nx h25 <| c_cF rfl <| c_sk <| WE.blk_n <| WE.then_n h23 <| c_rg <| r_mv rfl rfl <| r_ad rfl rfl rfl (wadd64 (by omega)) <| r_as rfl rfl <| r_nl ?_; rotate_left)
      exact WE.back (i + 1) ⟨by omega, fun j hj => by
        rcases Nat.lt_succ_iff_lt_or_eq.1 hj with h' | h'
        · exact hb j h'
        · rw [h']; exact h⟩ (by omega) ⟨rfl, rfl, trivial⟩ Mem.keep
  · have e : l.any (fun c => decide (128 ≤ c)) = false := by
      rw [List.any_eq_false]
      intro x hx
      obtain ⟨j, hj, rfl⟩ := List.mem_iff_getElem.1 hx
      have := hb j (by omega)
      simpa [hj] using this
    (refine c_sq fun k19 h19 => c_sq fun k21 h21 => c_rg <| r_mv rfl rfl <| r_mv rfl rfl <| r_ls Tryz.underlying22 rfl rfl <| r_ltF rfl rfl rfl (by omega) <| r_nx h21 <| c_cF rfl <| c_ex <| WE.then_x <| WE.then_x <| WE.blk_x <| WE.then_n h10 <| c_sq fun k23 h23 => c_rg <| r_as rfl rfl <| r_nx h23 <| c_rt ?_; rotate_left)
    exact WE.ret1 () rfl rfl (by rw [e]; rfl) trivial Mem.drop
set_option maxRecDepth 100000 in
theorem rmarked_spec (A : Option Addr) (c : Nat) (l : List Int) (w0 : World) (m0 : List Res) (hA : Rd w0 m0 A (runes l)) : PureC Tryz.prog 26 [.slice A l.length c] w0 m0 (.bool (decide (MarkP l))) := by
  refine Ct.of Tryz.func26 rfl (by kernel_rfl) rfl ?_
  by_cases h0 : 0 < l.length
  · (refine c_sq fun k8 h8 => c_rg <| r_as rfl rfl <| r_nx h8 <| c_sq fun k10 h10 => c_rg <| r_mv rfl rfl <| r_ls Tryz.underlying22 rfl rfl <| r_gtT rfl rfl rfl (by omega) <| r_mv rfl rfl <| r_mv rfl rfl <| r_im (hA.app _) Tryz.underlying22 (by kernel_rfl) rfl rfl rfl rfl (by omega) (by omega) <| r_li (0) (hA.app _) Tryz.underlying21 rfl rfl rfl (by omega) <| r_geC rfl rfl rfl (fun _ => ?_) (fun _ => ?_); refine r_pT rfl rfl rfl <| r_mv rfl rfl <| r_mv rfl rfl <| r_im (hA.app _) Tryz.underlying22 (by kernel_rfl) rfl rfl rfl rfl (by omega) (by omega) <| r_li (0) (hA.app _) Tryz.underlying21 rfl rfl rfl (by omega) <| r_leC rfl rfl rfl (fun _ => ?_) (fun _ => ?_); refine r_pT rfl rfl rfl <| r_as rfl rfl <| r_nx h10 <| c_rt ?_; rotate_left; refine r_pT rfl rfl rfl <| r_as rfl rfl <| r_nx h10 <| c_rt ?_; rotate_left; refine r_pT rfl rfl rfl <| r_mv rfl rfl <| r_sk rfl rfl <| r_sk rfl rfl <| r_sk rfl rfl <| r_sk rfl rfl <| r_pF rfl rfl rfl <| r_as rfl rfl <| r_nx h10 <| c_rt ?_; rotate_left)
    all_goals
      first
      | exact WE.ret1 () rfl rfl (by rw [decide_eq_true (by omega : MarkP l)]; rfl) trivial Mem.drop
      | exact WE.ret1 () rfl rfl (by rw [decide_eq_false (by omega : ¬ MarkP l)]; rfl) trivial Mem.drop
  · (refine c_sq fun k8 h8 => c_rg <| r_as rfl rfl <| r_nx h8 <| c_sq fun k10 h10 => c_rg <| r_mv rfl rfl <| r_ls Tryz.underlying22 rfl rfl <| r_gtF rfl rfl rfl (by omega) <| r_mv rfl rfl <| r_sk rfl rfl <| r_sk rfl rfl <| r_sk rfl rfl <| r_sk rfl rfl <| r_pF rfl rfl rfl <| r_mv rfl rfl <| r_sk rfl rfl <| r_sk rfl rfl <| r_sk rfl rfl <| r_sk rfl rfl <| r_pF rfl rfl rfl <| r_as rfl rfl <| r_nx h10 <| c_rt ?_; rotate_left)
    exact WE.ret1 () rfl rfl (by rw [decide_eq_false (by omega : ¬ MarkP l)]; rfl) trivial Mem.drop
/-- The least one that is not below n; 1114112: there is none. -/
def leastP (n : Int) (l : List Int) : Int := l.foldl (fun m c => if n ≤ c ∧ c < m then c else m) 1114112
theorem leastP_snoc (n : Int) (l : List Int) (c : Int) : leastP n (l ++ [c]) = if n ≤ c ∧ c < leastP n l then c else leastP n l := by unfold leastP; rw [List.foldl_append]; rfl
theorem least_law {n : Int} (l : List Int) (hl : ∀ c ∈ l, c ≤ 1114111) : (leastP n l = 1114112 ∧ (∀ c ∈ l, c < n) ∧ minGe n l = 1114111) ∨ (leastP n l = minGe n l ∧ leastP n l ≤ 1114111) := by
  have key : ∀ k (l : List Int), l.length = k → (∀ c ∈ l, c ≤ 1114111) → (leastP n l = 1114112 ∧ (∀ c ∈ l, c < n) ∧ minGe n l = 1114111) ∨ (leastP n l = minGe n l ∧ leastP n l ≤ 1114111) := by
    intro k
    induction k with
    | zero =>
      intro l hk _
      have : l = [] := List.eq_nil_of_length_eq_zero hk
      subst this
      exact .inl ⟨rfl, by simp, rfl⟩
    | succ k ih =>
      intro l hk hl
      rcases List.eq_nil_or_concat l with rfl | ⟨t, u, rfl⟩
      · simp at hk
      · rw [List.concat_eq_append] at hk hl ⊢
        have hu := hl u (by simp)
        rw [leastP_snoc, minGe_snoc]
        rcases ih t (by simpa using hk) (fun c hc => hl c (by simp [hc])) with ⟨i1, i2, i3⟩ | ⟨i1, i2⟩
        · by_cases h : n ≤ u
          · right
            rw [if_pos ⟨h, by omega⟩, if_pos h, i3, Int.min_eq_right hu]
            exact ⟨rfl, hu⟩
          · left
            rw [if_neg (by omega), if_neg h]
            refine ⟨i1, fun c hc => ?_, i3⟩
            rcases List.mem_append.1 hc with hc | hc
            · exact i2 c hc
            · rw [List.mem_singleton] at hc; omega
        · right
          by_cases h : n ≤ u
          · rw [if_pos h]
            by_cases h2 : u < leastP n t
            · rw [if_pos ⟨h, h2⟩, Int.min_eq_right (by omega)]
              exact ⟨rfl, hu⟩
            · rw [if_neg (by omega), Int.min_eq_left (by omega)]
              exact ⟨i1, i2⟩
          · rw [if_neg (by omega), if_neg h]
            exact ⟨i1, i2⟩
  exact key l.length l rfl hl
set_option maxRecDepth 100000 in
theorem rleast_spec (A : Option Addr) (c : Nat) (l : List Int) (n : Int) (hn : l.length ≤ 9000000000000000000) (hl : ∀ x ∈ l, -2147483648 ≤ x ∧ x ≤ 2147483647) (w0 : World) (m0 : List Res) (hA : Rd w0 m0 A (runes l)) :
    PureC Tryz.prog 54 [.slice A l.length c, .int .i64 n] w0 m0 (.int .i64 (leastP n l)) := by
  refine Ct.of Tryz.func54 rfl (by kernel_rfl) rfl ?_
  (refine c_sq fun k10 h10 => c_rg <| r_as rfl rfl <| r_nx h10 <| c_sq fun k12 h12 => c_rg <| r_as rfl rfl <| r_nx h12 <| c_sq fun k14 h14 => c_sq fun k16 h16 => c_rg <| r_as rfl rfl <| r_nx h16 <| c_bl ?_; rotate_left)
  refine WC.loop (α := Nat) (fun i => [(0, .slice A l.length c), (1, .int .i64 n), (6, .int .i64 i), (5, .int .i64 (leastP n (l.take i)))]) (fun _ => []) (fun i => i ≤ l.length) (fun i => l.length - i) 0 (by omega) ⟨rfl, rfl, rfl, rfl, trivial⟩ Mem.keep ?_
  intro i hi
  by_cases hlt : i < l.length
  · have hb := hl (l.getD i 0) (by simp [hlt])
    have hs := leastP_snoc n (l.take i) (l.getD i 0)
    rw [show l.take i ++ [l.getD i 0] = l.take (i + 1) by rw [List.take_add_one, List.getElem?_eq_getElem hlt]; simp [hlt]] at hs
    by_cases h1 : n ≤ l.getD i 0
    · by_cases h2 : l.getD i 0 < leastP n (l.take i)
      · rw [if_pos ⟨h1, h2⟩] at hs
        (refine c_sq fun k27 h27 => c_sq fun k29 h29 => c_rg <| r_mv rfl rfl <| r_mv rfl rfl <| r_ls Tryz.underlying22 rfl rfl <| r_ltT rfl rfl rfl (by omega) <| r_nx h29 <| c_cT rfl <| c_sk <| WE.then_n h27 <| c_sq fun k31 h31 => c_bl <| c_sq fun k33 h33 => c_rg <| r_mv rfl rfl <| r_mv rfl rfl <| r_im (hA.app _) Tryz.underlying22 (by kernel_rfl) rfl rfl rfl rfl (by omega) (by omega) <| r_li (i) (hA.app _) Tryz.underlying21 rfl rfl rfl (by omega) <| r_cv rfl (cv_int (k' := .i64) rfl Tryz.underlying3 (w64 (by omega))) rfl <| r_mv rfl rfl <| r_geT rfl rfl rfl (by omega) <| r_mv rfl rfl <| r_mv rfl rfl <| r_mv rfl rfl <| r_im (hA.app _) Tryz.underlying22 (by kernel_rfl) rfl rfl rfl rfl (by omega) (by omega) <| r_li (i) (hA.app _) Tryz.underlying21 rfl rfl rfl (by omega) <| r_cv rfl (cv_int (k' := .i64) rfl Tryz.underlying3 (w64 (by omega))) rfl <| r_mv rfl rfl <| r_ltT rfl rfl rfl (by omega) <| r_pT rfl rfl rfl <| r_nx h33 <| c_cT rfl <| c_rg <| r_mv rfl rfl <| r_mv rfl rfl <| r_im (hA.app _) Tryz.underlying22 (by kernel_rfl) rfl rfl rfl rfl (by omega) (by omega) <| r_li (i) (hA.app _) Tryz.underlying21 rfl rfl rfl (by omega) <| r_cv rfl (cv_int (k' := .i64) rfl Tryz.underlying3 (w64 (by omega))) rfl <| r_as rfl rfl <| r_nl <| WE.blk_n <| WE.then_n h31 <| c_rg <| r_mv rfl rfl <| r_ad rfl rfl rfl (wadd64 (by omega)) <| r_as rfl rfl <| r_nl ?_; rotate_left)
        exact WE.back (i + 1) (by omega) (by omega) ⟨rfl, rfl, rfl, by rw [hs]; rfl, trivial⟩ Mem.keep
      · rw [if_neg (by omega)] at hs
        (refine c_sq fun k27 h27 => c_sq fun k29 h29 => c_rg <| r_mv rfl rfl <| r_mv rfl rfl <| r_ls Tryz.underlying22 rfl rfl <| r_ltT rfl rfl rfl (by omega) <| r_nx h29 <| c_cT rfl <| c_sk <| WE.then_n h27 <| c_sq fun k31 h31 => c_bl <| c_sq fun k33 h33 => c_rg <| r_mv rfl rfl <| r_mv rfl rfl <| r_im (hA.app _) Tryz.underlying22 (by kernel_rfl) rfl rfl rfl rfl (by omega) (by omega) <| r_li (i) (hA.app _) Tryz.underlying21 rfl rfl rfl (by omega) <| r_cv rfl (cv_int (k' := .i64) rfl Tryz.underlying3 (w64 (by omega))) rfl <| r_mv rfl rfl <| r_geT rfl rfl rfl (by omega) <| r_mv rfl rfl <| r_mv rfl rfl <| r_mv rfl rfl <| r_im (hA.app _) Tryz.underlying22 (by kernel_rfl) rfl rfl rfl rfl (by omega) (by omega) <| r_li (i) (hA.app _) Tryz.underlying21 rfl rfl rfl (by omega) <| r_cv rfl (cv_int (k' := .i64) rfl Tryz.underlying3 (w64 (by omega))) rfl <| r_mv rfl rfl <| r_ltF rfl rfl rfl (by omega) <| r_pT rfl rfl rfl <| r_nx h33 <| c_cF rfl <| c_sk <| WE.blk_n <| WE.then_n h31 <| c_rg <| r_mv rfl rfl <| r_ad rfl rfl rfl (wadd64 (by omega)) <| r_as rfl rfl <| r_nl ?_; rotate_left)
        exact WE.back (i + 1) (by omega) (by omega) ⟨rfl, rfl, rfl, by rw [hs]; rfl, trivial⟩ Mem.keep
    · rw [if_neg (by omega)] at hs
      (refine c_sq fun k26 h26 => c_sq fun k28 h28 => c_rg <| r_mv rfl rfl <| r_mv rfl rfl <| r_ls Tryz.underlying22 rfl rfl <| r_ltT rfl rfl rfl (by omega) <| r_nx h28 <| c_cT rfl <| c_sk <| WE.then_n h26 <| c_sq fun k30 h30 => c_bl <| c_sq fun k32 h32 => c_rg <| r_mv rfl rfl <| r_mv rfl rfl <| r_im (hA.app _) Tryz.underlying22 (by kernel_rfl) rfl rfl rfl rfl (by omega) (by omega) <| r_li (i) (hA.app _) Tryz.underlying21 rfl rfl rfl (by omega) <| r_cv rfl (cv_int (k' := .i64) rfl Tryz.underlying3 (w64 (by omega))) rfl <| r_mv rfl rfl <| r_geF rfl rfl rfl (by omega) <| r_mv rfl rfl <| r_sk rfl rfl <| r_sk rfl rfl <| r_sk rfl rfl <| r_sk rfl rfl <| r_sk rfl rfl <| r_sk rfl rfl <| r_sk rfl rfl <| r_pF rfl rfl rfl <| r_nx h32 <| c_cF rfl <| c_sk <| WE.blk_n <| WE.then_n h30 <| c_rg <| r_mv rfl rfl <| r_ad rfl rfl rfl (wadd64 (by omega)) <| r_as rfl rfl <| r_nl ?_; rotate_left)
      exact WE.back (i + 1) (by omega) (by omega) ⟨rfl, rfl, rfl, by rw [hs]; rfl, trivial⟩ Mem.keep
  · rw [show l.take i = l from List.take_of_length_le (by omega)]
    (refine c_sq fun k21 h21 => c_sq fun k23 h23 => c_rg <| r_mv rfl rfl <| r_mv rfl rfl <| r_ls Tryz.underlying22 rfl rfl <| r_ltF rfl rfl rfl (by omega) <| r_nx h23 <| c_cF rfl <| c_ex <| WE.then_x <| WE.then_x <| WE.blk_x <| WE.then_n h14 <| c_sq fun k25 h25 => c_rg <| r_mv rfl rfl <| r_as rfl rfl <| r_nx h25 <| c_rt ?_; rotate_left)
    exact WE.ret1 () rfl rfl rfl trivial Mem.drop
end Go.Proofs.YthnabbidlmihbaaGreatDoor

/- Slices of slices, copy, append of zeros: a row of cells laid open; the rules of the walk. -/
set_option linter.unusedVariables false
namespace Go.Gp
open Go.RowKit
theorem addr_add (g k : Nat) : (⟨g, 0, none⟩ : Addr).add k = ⟨g, k, none⟩ := by
  by_cases h : k = 0
  · subst h; simp [Addr.add]
  · simp [Addr.add, h]
theorem addr_add2 (g o k : Nat) : (⟨g, o, none⟩ : Addr).add k = ⟨g, o + k, none⟩ := by
  by_cases h : k = 0
  · subst h; simp [Addr.add]
  · simp [Addr.add, h]
section
variable {C : Cx} {Q : Po} {l : List (Nat × Value)} {m : List Res} {ops : Array Oper} {rest : List Oper} {ty : TypeId} {pos : String} {af : Array Edge} {g : Option (Nat × Bool)} {b : Bool} {d : Nat} {v u : Value} {x y z : Operand} {t t' t2 : TypeId} {k k' : IntKind} {dd : Option Nat}
/-- A slice that the call owns is laid open. -/
theorem WX.open (i : Nat) {A : Option Addr} {c n : Nat} {xs : List Value} {e : TypeId} (hi : m[i]? = some (.own A c n xs e 1)) (hn : 0 < n) (h : ∀ (gg : Nat) (cur : List Value), A = some ⟨gg, 0, none⟩ → cur.length = c → cur.take n = xs → n ≤ c → c ≤ maxLen → WX false C Q ops rest l (m.set i (.blk gg cur e))) : WX false C Q ops rest l m := by
  have hlt : i < m.length := (List.getElem?_eq_some_iff.1 hi).1
  have hu : ∀ a w, C.St l m a w → ∃ gg cur, A = some ⟨gg, 0, none⟩ ∧ cur.length = c ∧ cur.take n = xs ∧ n ≤ c ∧ c ≤ maxLen ∧ C.St l (m.set i (.blk gg cur e)) a w := fun a w hs => by
    have hi' : (m ++ C.m0)[i]? = some (.own A c n xs e 1) := by rw [List.getElem?_append_left hlt]; exact hi
    have hown : w.ownsRow C.w0.heap.size e 1 (.slice A n c) n xs := hs.2.all i _ hi'
    rcases hown.2 with ⟨_, h0⟩ | ⟨gg, cap, cur, hv, hb, hg, hnc, hcm, hcs, htake⟩
    · omega
    · injection hv with h1 h2 h3
      subst h3
      refine ⟨gg, cur.toList, h1, by simpa using hcs, by simpa using htake, hnc, hcm, hs.1, ?_⟩
      rw [← List.set_append_left _ _ hlt]
      refine hs.2.upd hi' ⟨rfl, rfl, rfl, Nat.le_refl _, fun _ _ _ => rfl⟩ ⟨hb, by simpa using hg⟩ (fun k hk => .inl ?_)
      simp only [Res.block] at hk ⊢
      rw [h1]
      exact hk
  unfold WX WL at h ⊢
  intro a w hs
  obtain ⟨gg, cur, h1, h2, h3, h4, h5, hs'⟩ := hu a w hs
  exact h gg cur h1 h2 h3 h4 h5 a w hs'
/-- .. and shut again. -/
theorem Mem.shut {w0 w : World} {m0 : List Res} (i : Nat) {gg c n : Nat} {cur : List Value} {e : TypeId} (hi : m[i]? = some (.blk gg cur e)) (hc : cur.length = c) (hn : n ≤ c) (hm : c ≤ maxLen) (hw : Mem w0 (m ++ m0) w) : Mem w0 (m.set i (.own (some ⟨gg, 0, none⟩) c n (cur.take n) e 1) ++ m0) w := by
  have hlt : i < m.length := (List.getElem?_eq_some_iff.1 hi).1
  have hi' : (m ++ m0)[i]? = some (.blk gg cur e) := by rw [List.getElem?_append_left hlt]; exact hi
  have h := hw.all i _ hi'
  rw [← List.set_append_left _ _ hlt]
  refine hw.upd hi' ⟨rfl, rfl, rfl, Nat.le_refl _, fun _ _ _ => rfl⟩ ?_ (fun k hk => .inl hk)
  refine ⟨by simp; omega, .inr ⟨gg, c, cur.toArray, rfl, h.1, h.2, hn, hm, by simpa using hc, by simp⟩⟩
theorem Qv.slFrom {A : Option Addr} {n c : Nat} {i : Int} (ht : C.P.underlying t = some (.slice (C.P.elem t))) (hz : ∀ w, (sizeOf (C.P.elem t)).run C.P w = .ok 1 w) (hx : opv l x = some (.slice A n c)) (hy : opv l y = some (.int k i)) (h0 : 0 ≤ i) (h1 : i ≤ n) :
    Qv C l m ⟨dd, .slice t x (some y) none none, ty, pos, af, g⟩ (sliced A i.toNat n c 1) := fun ev hev w _ => by
  have h2 := run_slice_l (P := C.P) w t A n c ht k i h0 h1
  rw [hz w] at h2
  simp [execOp, hev x _ hx, hev y _ hy, Instr.sliceAt, run_underlying ht, h2]
theorem Qv.slTo {A : Option Addr} {n c : Nat} {i : Int} (ht : C.P.underlying t = some (.slice (C.P.elem t))) (hz : ∀ w, (sizeOf (C.P.elem t)).run C.P w = .ok 1 w) (hx : opv l x = some (.slice A n c)) (hy : opv l y = some (.int k i)) (h0 : 0 ≤ i) (h1 : i ≤ c) :
    Qv C l m ⟨dd, .slice t x none (some y) none, ty, pos, af, g⟩ (sliced A 0 i.toNat c 1) := fun ev hev w _ => by
  have h2 := run_slice_h (P := C.P) w t A n c ht k i h0 h1
  rw [hz w] at h2
  simp [execOp, hev x _ hx, hev y _ hy, Instr.sliceAt, run_underlying ht, h2]
theorem r_sf {A : Option Addr} {n c : Nat} {i : Int} (ht : C.P.underlying t = some (.slice (C.P.elem t))) (hz : ∀ w, (sizeOf (C.P.elem t)).run C.P w = .ok 1 w) (hx : opv l x = some (.slice A n c)) (hy : opv l y = some (.int k i)) (h0 : 0 ≤ i) (h1 : i ≤ n) (h : okk ops l g d C.n = true) (cc : WX b C Q ops rest ((d, sliced A i.toNat n c 1) :: l) m) :
    WX b C Q ops (⟨some d, .slice t x (some y) none none, ty, pos, af, g⟩ :: rest) l m := WX.q (Qv.slFrom ht hz hx hy h0 h1) rfl (okk_1 h) (okk_2 h) rfl cc
theorem r_sto {A : Option Addr} {n c : Nat} {i : Int} (ht : C.P.underlying t = some (.slice (C.P.elem t))) (hz : ∀ w, (sizeOf (C.P.elem t)).run C.P w = .ok 1 w) (hx : opv l x = some (.slice A n c)) (hy : opv l y = some (.int k i)) (h0 : 0 ≤ i) (h1 : i ≤ c) (h : okk ops l g d C.n = true) (cc : WX b C Q ops rest ((d, sliced A 0 i.toNat c 1) :: l) m) :
    WX b C Q ops (⟨some d, .slice t x none (some y) none, ty, pos, af, g⟩ :: rest) l m := WX.q (Qv.slTo ht hz hx hy h0 h1) rfl (okk_1 h) (okk_2 h) rfl cc
theorem sliced_at (gg i n c : Nat) (h : i ≠ c) : sliced (some ⟨gg, 0, none⟩) i n c 1 = .slice (some ⟨gg, i, none⟩) (n - i) (c - i) := by
  unfold sliced
  rw [if_neg (fun e => h e.symm)]
  simp [addr_add]
theorem sliced_0 (gg n c : Nat) : sliced (some ⟨gg, 0, none⟩) 0 n c 1 = .slice (some ⟨gg, 0, none⟩) n c := by
  unfold sliced
  split <;> simp [addr_add]
/-- copy into a row that is laid open. -/
theorem Ev.copy (i : Nat) {e e' : TypeId} {gg o dl dc : Nat} {a : Addr} {sl sc : Nat} {cs vs : List Value} {m' : List Res} (hu : C.P.underlying t = some (.slice e)) (hs : (C.P.info? e).map (·.size) = some 1) (hx : opv l x = some (.slice (some ⟨gg, o, none⟩) dl dc)) (hy : opv l y = some (.slice (some a) sl sc)) (hi : m[i]? = some (.blk gg cs e'))
    (hsrc : ∀ w, Mem C.w0 (m ++ C.m0) w → ∀ j v, vs[j]? = some v → w.cell? (a.add j) = some v) (hn : vs.length = Nat.min sl dl) (hfit : o + vs.length ≤ cs.length) (h1 : ∀ v ∈ vs, v.oneCell' = true) (hm : m.set i (.blk gg (cs.take o ++ vs ++ cs.drop (o + vs.length)) e') = m') :
    Ev (α := Unit) C l m ⟨dd, .call { callee := .builtin .copy, args := #[x, y], argTypes := #[t, t'] }, ty, pos, af, g⟩ (fun _ => True) (fun _ => .int .i64 vs.length) (fun _ => m') := fun ev hev w hw => by
  have hlt : i < m.length := (List.getElem?_eq_some_iff.1 hi).1
  have hi' : (m ++ C.m0)[i]? = some (.blk gg cs e') := by rw [List.getElem?_append_left hlt]; exact hi
  have h := hw.all i _ hi'
  have hrun := run_copy_row (P := C.P) w t t' ty e gg o dl dc a sl sc cs.toArray e' vs hu hs h.2 hn (hsrc w hw) (by simpa using hfit) h1
  refine ⟨(), w.setRow gg (cs.take o ++ vs ++ cs.drop (o + vs.length)).toArray, trivial, ?_, ?_⟩
  · simp only [goInt] at hrun
    simp [execOp, resolve, invoke, builtin, hev x _ hx, hev y _ hy, hrun]
  · rw [← hm, ← List.set_append_left _ _ hlt]
    refine hw.upd hi' (grownBy_setRow _) ⟨h.1, ?_⟩ (fun k hk => .inl hk)
    have := setRow_heap w gg cs.toArray (cs.take o ++ vs ++ cs.drop (o + vs.length)).toArray e' (0, 0) h.2
    simpa using this
/-- append of k zeros, where there is no room: a new row. -/
theorem Ev.zeros {e : TypeId} {inf : TypeInfo} {zv : Value} {kn : IntKind} {gg n c kk : Nat} {olds : List Value} (ht : C.P.underlying t = some (.slice e)) (htn : C.P.underlying t' = some (.int kn)) (hi : C.P.info? e = some inf) (hz : inf.zero = some zv) (hs1 : inf.size = 1) (hby : inf.bytes = 4) (hzc : zv.cells.size = 1)
    (hx : opv l x = some (.slice (some ⟨gg, 0, none⟩) n c)) (hy : opv l y = some (.int k kk)) (hold : ∀ w, Mem C.w0 (m ++ C.m0) w → ∀ j v, olds[j]? = some v → w.cell? ⟨gg, j, none⟩ = some v) (hol : olds.length = n) (h0 : 0 < kk) (hg : c < n + kk) (hb : (n + kk) * 4 ≤ 140737488355328) :
    Ev (α := Nat × Nat) C l m ⟨dd, .call { callee := .builtin .append, args := #[x, y], argTypes := #[t, t'] }, ty, pos, af, g⟩ (fun _ => True) (fun p => .slice (some ⟨p.1, 0, none⟩) (n + kk) p.2) (fun p => .own (some ⟨p.1, 0, none⟩) p.2 (n + kk) (olds ++ (Builtin.zeroCells zv.cells kk).toList) e 1 :: m) := fun ev hev w hw => by
  have hl := run_loadCells_list (P := C.P) w.drew ⟨gg, 0, none⟩ olds (fun j v hj => by rw [addr_add]; exact hold w.drew hw.drew j v hj)
  have hf : (Builtin.firstCells inf.size n (.slice (some ⟨gg, 0, none⟩) n c)).run C.P w.drew = .ok olds.toArray w.drew := by
    rw [hs1]
    simp only [Builtin.firstCells, Nat.mul_one, ← hol]
    exact hl
  have hrun := Go.Lib.run_append_grow_zeros (P := C.P) w t t' ty e inf zv k kn ht htn hi hz (some ⟨gg, 0, none⟩) n c olds hf kk h0 (by omega) hg (by omega) (by rw [hby]; omega) (by rw [hby]; exact growslice_fits hg hb)
  have hge := grownCap_ge w (n + kk) c e
  have hle := grownCap_le_maxLen w (n + kk) c e (by unfold maxLen; omega)
  refine ⟨(w.heap.size, grownCap w (n + kk) c e), w.drew.alloc (.cells (olds.toArray ++ Builtin.zeroCells zv.cells kk ++ Builtin.zeroCells zv.cells (grownCap w (n + kk) c e - (n + kk))) e), trivial, ?_, ?_⟩
  rotate_left
  · have hgb : w.grownBy (w.drew.alloc (.cells (olds.toArray ++ Builtin.zeroCells zv.cells kk ++ Builtin.zeroCells zv.cells (grownCap w (n + kk) c e - (n + kk))) e)) none :=
      let q := World.grownBy_alloc w.drew (.cells (olds.toArray ++ Builtin.zeroCells zv.cells kk ++ Builtin.zeroCells zv.cells (grownCap w (n + kk) c e - (n + kk))) e) none
      ⟨q.os, q.tape, q.output, q.size, q.block⟩
    refine Mem.add hw hgb (r := .own (some ⟨w.heap.size, 0, none⟩) (grownCap w (n + kk) c e) (n + kk) (olds ++ (Builtin.zeroCells zv.cells kk).toList) e 1) ?_ (fun k hk => by simp [Res.block] at hk; omega)
    refine ⟨by simp [size_zeroCells, hzc, hol], .inr ⟨w.heap.size, grownCap w (n + kk) c e, _, rfl, hw.bnd, heap_alloc_new w.drew _, hge, hle, ?_, ?_⟩⟩
    · simp only [Array.size_append, List.size_toArray, size_zeroCells, hzc, hol]
      omega
    · simp only [Array.toList_append]
      refine List.take_left' ?_
      simp [size_zeroCells, hzc, hol]
  · simp [execOp, resolve, invoke, builtin, hev x _ hx, hev y _ hy, hrun]
theorem r_zr {e : TypeId} {zv : Value} {kn : IntKind} {gg n c kk : Nat} {q : Int} (olds : List Value) (ht : C.P.underlying t = some (.slice e)) (htn : C.P.underlying t' = some (.int kn)) (hinf : (C.P.info? e).map (fun i => (i.zero, i.size, i.bytes)) = some (some zv, 1, 4)) (hzc : zv.cells.size = 1)
    (hx : opv l x = some (.slice (some ⟨gg, 0, none⟩) n c)) (hy : opv l y = some (.int k q)) (hq : q = (kk : Int)) (hold : ∀ w, Mem C.w0 (m ++ C.m0) w → ∀ j v, olds[j]? = some v → w.cell? ⟨gg, j, none⟩ = some v) (hol : olds.length = n) (h0 : 0 < kk) (hg : c < n + kk) (hb : (n + kk) * 4 ≤ 140737488355328) (h : okk ops l g d C.n = true)
    (cc : ∀ p : Nat × Nat, WX false C Q ops rest ((d, .slice (some ⟨p.1, 0, none⟩) (n + kk) p.2) :: l) (.own (some ⟨p.1, 0, none⟩) p.2 (n + kk) (olds ++ (Builtin.zeroCells zv.cells kk).toList) e 1 :: m)) :
    WX false C Q ops (⟨some d, .call { callee := .builtin .append, args := #[x, y], argTypes := #[t, t'] }, ty, pos, af, g⟩ :: rest) l m := by
  subst hq
  cases hqq : C.P.info? e with
  | none => simp [hqq] at hinf
  | some inf =>
    have h3 : inf.zero = some zv ∧ inf.size = 1 ∧ inf.bytes = 4 := by simpa [hqq] using hinf
    exact WX.ev (Ev.zeros ht htn hqq h3.1 h3.2.1 h3.2.2 hzc hx hy hold hol h0 hg hb) rfl (okk_1 h) (okk_2 h) rfl (fun p _ => cc p)
theorem r_cpy (i : Nat) {e e' : TypeId} {gg o dl dc : Nat} {a : Addr} {sl sc : Nat} {cs : List Value} (vs : List Value) {m' : List Res} (hu : C.P.underlying t = some (.slice e)) (hs : (C.P.info? e).map (·.size) = some 1) (hx : opv l x = some (.slice (some ⟨gg, o, none⟩) dl dc)) (hy : opv l y = some (.slice (some a) sl sc)) (hi : m[i]? = some (.blk gg cs e'))
    (hsrc : ∀ w, Mem C.w0 (m ++ C.m0) w → ∀ j v, vs[j]? = some v → w.cell? (a.add j) = some v) (hn : vs.length = Nat.min sl dl) (hfit : o + vs.length ≤ cs.length) (h1 : ∀ v ∈ vs, v.oneCell' = true) (hm : m.set i (.blk gg (cs.take o ++ vs ++ cs.drop (o + vs.length)) e') = m') (h : okk ops l g d C.n = true) (c : WX false C Q ops rest ((d, .int .i64 vs.length) :: l) m') :
    WX false C Q ops (⟨some d, .call { callee := .builtin .copy, args := #[x, y], argTypes := #[t, t'] }, ty, pos, af, g⟩ :: rest) l m := WX.ev (Ev.copy i hu hs hx hy hi hsrc hn hfit h1 hm) rfl (okk_1 h) (okk_2 h) rfl (fun _ _ => c)
theorem Qv.st0 (j : Nat) {gg n c : Nat} {q : Int} (ht : C.P.underlying t = some (.slice (C.P.elem t))) (hz : ∀ w, (sizeOf (C.P.elem t)).run C.P w = .ok 1 w) (hx : opv l x = some (.slice (some ⟨gg, 0, none⟩) n c)) (hy : opv l y = some (.int k q)) (hq : q = (j : Int)) (h1 : j ≤ c) :
    Qv C l m ⟨dd, .slice t x none (some y) none, ty, pos, af, g⟩ (.slice (some ⟨gg, 0, none⟩) j c) := by
  subst hq
  have := Qv.slTo (m := m) (dd := dd) (ty := ty) (pos := pos) (af := af) (g := g) ht hz hx hy (by omega) (by omega)
  rw [Int.toNat_natCast, sliced_0] at this
  exact this
theorem Qv.sfj (j : Nat) {gg n c : Nat} {q : Int} (ht : C.P.underlying t = some (.slice (C.P.elem t))) (hz : ∀ w, (sizeOf (C.P.elem t)).run C.P w = .ok 1 w) (hx : opv l x = some (.slice (some ⟨gg, 0, none⟩) n c)) (hy : opv l y = some (.int k q)) (hq : q = (j : Int)) (h1 : j ≤ n) (h2 : j ≠ c) :
    Qv C l m ⟨dd, .slice t x (some y) none none, ty, pos, af, g⟩ (.slice (some ⟨gg, j, none⟩) (n - j) (c - j)) := by
  subst hq
  have := Qv.slFrom (m := m) (dd := dd) (ty := ty) (pos := pos) (af := af) (g := g) ht hz hx hy (by omega) (by omega)
  rw [Int.toNat_natCast, sliced_at gg j n c h2] at this
  exact this
theorem r_st0 (j : Nat) {gg n c : Nat} {q : Int} (ht : C.P.underlying t = some (.slice (C.P.elem t))) (hz : ∀ w, (sizeOf (C.P.elem t)).run C.P w = .ok 1 w) (hx : opv l x = some (.slice (some ⟨gg, 0, none⟩) n c)) (hy : opv l y = some (.int k q)) (hq : q = (j : Int)) (h1 : j ≤ c) (h : okk ops l g d C.n = true) (cc : WX b C Q ops rest ((d, .slice (some ⟨gg, 0, none⟩) j c) :: l) m) :
    WX b C Q ops (⟨some d, .slice t x none (some y) none, ty, pos, af, g⟩ :: rest) l m := WX.q (Qv.st0 j ht hz hx hy hq h1) rfl (okk_1 h) (okk_2 h) rfl cc
theorem r_sfj (j : Nat) {gg n c : Nat} {q : Int} (ht : C.P.underlying t = some (.slice (C.P.elem t))) (hz : ∀ w, (sizeOf (C.P.elem t)).run C.P w = .ok 1 w) (hx : opv l x = some (.slice (some ⟨gg, 0, none⟩) n c)) (hy : opv l y = some (.int k q)) (hq : q = (j : Int)) (h1 : j ≤ n) (h2 : j ≠ c) (h : okk ops l g d C.n = true) (cc : WX b C Q ops rest ((d, .slice (some ⟨gg, j, none⟩) (n - j) (c - j)) :: l) m) :
    WX b C Q ops (⟨some d, .slice t x (some y) none none, ty, pos, af, g⟩ :: rest) l m := WX.q (Qv.sfj j ht hz hx hy hq h1 h2) rfl (okk_1 h) (okk_2 h) rfl cc
theorem Mem.rowCell {w0 w : World} {m : List Res} {bb : Nat} {cs : List Value} {e : TypeId} (hw : Mem w0 m w) (i : Nat) (hi : m[i]? = some (.blk bb cs e)) {j : Nat} {v : Value} (hj : cs[j]? = some v) : w.cell? ⟨bb, j, none⟩ = some v := by
  have h := hw.all i _ hi
  rw [cell_of_row w bb j cs.toArray e (0, 0) h.2]
  simpa using hj
theorem take_head {X : List Value} {i : Nat} {P : List Value} (h : X.take i = P) : X.take i = P ∧ P.length ≤ i := ⟨h, by rw [← h]; exact List.length_take_le _ _⟩
theorem ins_B (X D P : List Value) (v : Value) (i : Nat) (hP : X.take i = P) (hi : P.length = i) (hX : i + 1 ≤ X.length) :
    ((X.take (i + 1) ++ D ++ X.drop (i + 1 + D.length)).take i ++ [v] ++ (X.take (i + 1) ++ D ++ X.drop (i + 1 + D.length)).drop (i + [v].length)).take (i + 1 + D.length) = P ++ v :: D := by
  have l1 : (X.take (i + 1)).length = i + 1 := by simp; omega
  have e1 : (X.take (i + 1) ++ D ++ X.drop (i + 1 + D.length)).take i = P := by
    rw [List.append_assoc, List.take_append_of_le_length (by omega), List.take_take, Nat.min_eq_left (by omega)]
    exact hP
  have e2 : (X.take (i + 1) ++ D ++ X.drop (i + 1 + D.length)).drop (i + [v].length) = D ++ X.drop (i + 1 + D.length) := by
    rw [List.append_assoc]
    exact List.drop_left' (by rw [l1]; rfl)
  rw [e1, e2, ← List.append_assoc]
  have e3 : P ++ [v] ++ D = P ++ v :: D := by simp
  rw [e3]
  refine List.take_left' ?_
  simp
  omega
theorem ins_A (X D P : List Value) (v : Value) (i : Nat) (hP : X.take i = P) (hi : P.length = i) (hX : i + 1 ≤ X.length) :
    ((X.take i ++ [v] ++ X.drop (i + [v].length)).take (i + 1) ++ D ++ (X.take i ++ [v] ++ X.drop (i + [v].length)).drop (i + 1 + D.length)).take (i + 1 + D.length) = P ++ v :: D := by
  rw [hP]
  have e1 : (P ++ [v] ++ X.drop (i + [v].length)).take (i + 1) = P ++ [v] := List.take_left' (by simp; omega)
  rw [e1]
  have e3 : P ++ [v] ++ D = P ++ v :: D := by simp
  rw [e3]
  refine List.take_left' ?_
  simp
  omega
end
end Go.Gp

/- slices.Insert of one code point: the walk. -/
namespace Go.Proofs.YthnabbidlmihbaaGreatDoor
open Go.RowKit Go.Gp

def insL (l : List Int) (i : Nat) (c : Int) : List Int := l.take i ++ c :: l.drop i
theorem insL_length (l : List Int) (i : Nat) (c : Int) (h : i ≤ l.length) : (insL l i c).length = l.length + 1 := by simp [insL]; omega
theorem elem1 : Tryz.prog.underlying 22 = some (.slice (Tryz.prog.elem 22)) := by kernel_rfl
theorem size1 (w : World) : (sizeOf (Tryz.prog.elem 22)).run Tryz.prog w = .ok 1 w := by kernel_rfl
theorem x_over (vb gg o n c : Nat) (hne : vb ≠ gg) (w : World) (tA tB : TypeId) (kA kB : Nat) (hsa : w.shape? vb = some (tA, kA)) (hsb : w.shape? gg = some (tB, kB)) (hk : kB ≠ 0) (hf : ∀ j, w.frozen? ⟨vb, j, none⟩ = false) :
    (callFunc 71 #[.slice (some ⟨vb, 0, none⟩) 1 1, .slice (some ⟨gg, o, none⟩) n c]).run Tryz.prog w = .ok (.value (.bool false)) w := by
  rw [run_callFunc_extern (e := Extern.SlicesOverlaps.overlaps #[22, 22] #[4]) Tryz.func71 (by kernel_rfl) (by kernel_rfl) (by kernel_rfl) (by kernel_rfl)]
  rw [Go.Lib.run_overlaps_apart w 22 4 21 Tryz.underlying22 1 (fun w => by kernel_rfl) ⟨vb, 0, none⟩ ⟨gg, o, none⟩ 1 1 n c hne tA tB kA kB hsa hsb hk (hf 0) (hf kA)]
  rfl
set_option maxRecDepth 100000 in
theorem insert_spec (p : Option Addr × Nat) (l : List Int) (i : Nat) (c : Int) (vb : Nat) (hn : l.length ≤ 1000000) (hi : i ≤ l.length) (w0 : World) (m0 : List Res) :
    Ct (α := Option Addr × Nat) Tryz.prog 42 [.slice p.1 l.length p.2, .int .i64 i, .slice (some ⟨vb, 0, none⟩) 1 1] w0 [OwnR p l, .own (some ⟨vb, 0, none⟩) 1 1 [.int .i32 c] 21 1] m0 (fun _ => True) (fun q => SlR q (insL l i c)) (fun q => [OwnR q (insL l i c)]) := by
  obtain ⟨A, cp⟩ := p
  dsimp only
  refine Ct.of Tryz.func42 rfl (by kernel_rfl) rfl ?_
  by_cases hin : i = l.length
  · subst hin
    have e0 : insL l l.length c = l ++ [c] := by rw [insL, List.take_length, List.drop_length]
    (refine c_sq fun k14 h14 => c_rg <| r_as rfl rfl <| r_nx h14 <| c_sq fun k16 h16 => c_rg <| r_mv rfl rfl <| r_mv rfl rfl ?_; rotate_left)
    refine r_sf elem1 size1 rfl rfl (by omega) (by omega) rfl ?_
    (refine r_nx h16 <| c_sq fun k18 h18 => c_rg <| r_mv rfl rfl <| r_ls Tryz.underlying22 rfl rfl <| r_as rfl rfl <| r_nx h18 <| c_sq fun k20 h20 => c_sq fun k22 h22 => c_rg <| r_mv rfl rfl <| r_eqF rfl rfl rfl (by omega) <| r_nx h22 <| c_cF rfl <| c_sk <| WE.then_n h20 <| c_sq fun k24 h24 => c_rg <| r_mv rfl rfl <| r_ls Tryz.underlying22 rfl rfl <| r_as rfl rfl <| r_nx h24 <| c_sq fun k26 h26 => c_sq fun k28 h28 => c_rg <| r_mv rfl rfl <| r_mv rfl rfl <| r_eqT rfl rfl rfl (by omega) <| r_nx h28 <| c_cT rfl <| c_sq fun k30 h30 => c_rg <| r_mv rfl rfl <| r_mv rfl rfl ?_; rotate_left)
    refine r_am (ys := [c]) 0 (z := .int .i32 0) (by_ := 4) (f := (.int .i32 ·)) Tryz.underlying22 (by kernel_rfl) rfl rfl rfl rfl (Rd.own 1 rfl) rfl (fun _ => rfl) (by omega) rfl (fun q _ => ?_)
    (refine r_as rfl rfl <| r_nx h30 <| c_rt <| WE.then_r ?_; rotate_left)
    exact WE.ret1 q rfl rfl (by rw [e0]; rfl) trivial (by rw [e0]; exact Mem.pick [0] (by decide) rfl)
  · (refine c_sq fun k13 h13 => c_rg ?_)
    refine WX.open 0 rfl (by omega) (fun gg cur hA hcl hct hnc hcm => ?_)
    subst hA
    refine WX.open 1 rfl (by omega) (fun g2 cv hv hcl2 hct2 _ _ => ?_)
    obtain rfl : vb = g2 := by injection hv with h1; injection h1
    have hcv : cv = [.int .i32 c] := by rw [← hct2, List.take_of_length_le (by omega)]
    subst hcv
    dsimp only at hcl hnc hcm
    have hP : cur.take i = runes (l.take i) := by
      have : (cur.take l.length).take i = (runes l).take i := by rw [hct]
      rw [List.take_take, Nat.min_eq_left (by omega)] at this
      rw [this, runes, ← List.map_take]
    have hD : (runes (l.drop i)).length = l.length - i := by simp
    have hcur : ∀ j v, (runes (l.drop i))[j]? = some v → cur[i + j]? = some v := by
      intro j v h
      have h2 : (runes l)[i + j]? = some v := by
        rw [runes, List.map_drop, List.getElem?_drop] at h
        exact h
      rw [← hct, List.getElem?_take] at h2
      split at h2
      · exact h2
      · cases h2
    have hins : runes (l.take i) ++ .int .i32 c :: runes (l.drop i) = runes (insL l i c) := by simp [insL]
    have hone : ∀ v ∈ runes (l.drop i), v.oneCell' = true := by
      intro v hv
      obtain ⟨a, _, rfl⟩ := List.mem_map.1 hv
      rfl
    have hc1 : ∀ v ∈ ([.int .i32 c] : List Value), v.oneCell' = true := by
      intro v hv
      rw [List.mem_singleton] at hv
      subst hv
      rfl
    have hlenI := insL_length l i c hi
    (refine r_as rfl rfl <| r_nx h13 <| c_sq fun k40 h40 => c_rg <| r_mv rfl rfl <| r_mv rfl rfl ?_; rotate_left)
    refine r_sf elem1 size1 rfl rfl (by omega) (by omega) rfl ?_
    by_cases hcap : l.length + 1 ≤ cp
    · (refine r_nx h40 <| c_sq fun k43 h43 => c_rg <| r_mv rfl rfl <| r_ls Tryz.underlying22 rfl rfl <| r_as rfl rfl <| r_nx h43 <| c_sq fun k45 h45 => c_sq fun k47 h47 => c_rg <| r_mv rfl rfl <| r_eqF rfl rfl rfl (by omega) <| r_nx h47 <| c_cF rfl <| c_sk <| WE.then_n h45 <| c_sq fun k49 h49 => c_rg <| r_mv rfl rfl <| r_ls Tryz.underlying22 rfl rfl <| r_as rfl rfl <| r_nx h49 <| c_sq fun k51 h51 => c_sq fun k53 h53 => c_rg <| r_mv rfl rfl <| r_mv rfl rfl <| r_eqF rfl rfl rfl (by omega) <| r_nx h53 <| c_cF rfl <| c_sk <| WE.then_n h51 <| c_sq fun k55 h55 => c_sq fun k57 h57 => c_rg <| r_mv rfl rfl <| r_mv rfl rfl <| r_ad rfl rfl rfl (wadd64 (by omega)) <| r_mv rfl rfl ?_; rotate_left)
      refine r_cp Tryz.underlying22 rfl rfl ?_
      (refine r_gtF rfl rfl rfl (by omega) <| r_nx h57 <| c_cF rfl <| c_sk <| WE.then_n h55 <| c_sq fun k59 h59 => c_rg <| r_mv rfl rfl <| r_mv rfl rfl <| r_mv rfl rfl <| r_ad rfl rfl rfl (wadd64 (by omega)) ?_; rotate_left)
      refine r_st0 (l.length + 1) elem1 size1 rfl rfl (by omega) hcap rfl ?_
      (refine r_as rfl rfl <| r_nx h59 <| c_sq fun k61 h61 => c_sq fun k63 h63 => c_rg <| r_mv rfl rfl <| r_mv rfl rfl <| r_mv rfl rfl <| r_mv rfl rfl <| r_ad rfl rfl rfl (wadd64 (by omega)) ?_; rotate_left)
      refine r_sfj (i + 1) elem1 size1 rfl rfl (by omega) (by omega) (by omega) rfl ?_
      refine r_xm (v := .bool false) rfl rfl (fun w hw => x_over vb gg (i + 1) _ _ (fun e => hw.apart 1 0 _ _ (by decide) rfl rfl vb rfl (by rw [e]; rfl)) w _ _ _ _ (hw.shape 1 rfl) (hw.shape 0 rfl) (by omega) (fun j => frozen_of_row w vb j _ _ (hw.all 1 _ rfl).2)) rfl ?_
      (refine r_no rfl rfl rfl <| r_nx h63 <| c_cT rfl <| c_sq fun k65 h65 => ?_)
      refine WC.stail 8 rfl (by kernel_rfl) (by kernel_rfl) ?_
      refine WS.q (d := 69) (Qv.move rfl) rfl rfl rfl ?_
      refine WS.q (d := 70) (Qv.move rfl) rfl rfl rfl ?_
      refine WS.q (d := 71) (Qv.move rfl) rfl rfl rfl ?_
      refine WS.q (d := 72) (Qv.add rfl rfl (wadd64 (a := (i : Int)) (b := ((1 : Nat) : Int)) (by omega))) rfl rfl rfl ?_
      refine WS.q (d := 73) (Qv.sfj (i + 1) elem1 size1 rfl rfl (by omega) (by omega) (by omega)) rfl rfl rfl ?_
      refine WS.q (d := 74) (Qv.move rfl) rfl rfl rfl ?_
      refine WS.q (d := 75) (Qv.move rfl) rfl rfl rfl ?_
      refine WS.q (d := 76) (Qv.sfj i elem1 size1 rfl rfl rfl (by omega) (by omega)) rfl rfl rfl ?_
      refine WS.nil ?_
      refine WT.ev (d := 77) (Ev.copy 0 (vs := runes (l.drop i)) Tryz.underlying22 (by kernel_rfl) rfl rfl rfl (fun w hw j v hj => by rw [addr_add2]; exact hw.rowCell 0 rfl (hcur j v hj)) (by have := Nat.min_eq_right (a := l.length + 1 - i) (b := l.length + 1 - (i + 1)) (by omega); rw [hD]; show l.length - i = min _ _; rw [this]; omega) (by rw [hD]; omega) hone rfl) rfl rfl rfl (fun _ _ => ?_)
      refine WT.nil ?_
      (refine WE.then_n h65 <| c_sq fun k69 h69 => c_rg <| r_mv rfl rfl <| r_mv rfl rfl ?_; rotate_left)
      refine r_sfj i elem1 size1 rfl rfl rfl (by omega) (by omega) rfl ?_
      (refine r_mv rfl rfl ?_; rotate_left)
      refine r_cpy 0 [.int .i32 c] Tryz.underlying22 (by kernel_rfl) rfl rfl rfl (fun w hw j v hj => by rw [addr_add]; exact hw.rowCell 1 rfl hj) (by show 1 = min 1 _; omega) (by simp; omega) hc1 rfl rfl ?_
      (refine r_nx h69 <| c_sq fun k71 h71 => c_rg <| r_mv rfl rfl <| r_as rfl rfl <| r_nx h71 <| c_rt <| WE.then_r ?_; rotate_left)
      refine WE.ret1 (some ⟨gg, 0, none⟩, cp) rfl rfl (by show _ = some (Value.slice (some ⟨gg, 0, none⟩) (insL l i c).length cp); rw [hlenI]; rfl) trivial (fun w hw => ?_)
      have hfin := ins_B cur (runes (l.drop i)) (runes (l.take i)) (.int .i32 c) i hP (by simp; omega) (by omega)
      rw [hins] at hfin
      have h2 := Mem.shut 0 (n := i + 1 + (runes (l.drop i)).length) (c := cp) rfl (by simp; omega) (by omega) hcm hw
      rw [hfin] at h2
      have hO : OwnR (some ⟨gg, 0, none⟩, cp) (insL l i c) = .own (some ⟨gg, 0, none⟩) cp (i + 1 + (runes (l.drop i)).length) (runes (insL l i c)) 21 1 := by
        show Res.own _ _ (insL l i c).length _ _ _ = _
        rw [hlenI, show l.length + 1 = i + 1 + (runes (l.drop i)).length by rw [hD]; omega]
      show Mem w0 ([OwnR (some ⟨gg, 0, none⟩, cp) (insL l i c)] ++ m0) w
      rw [hO]
      exact Mem.pick [0] (by decide) rfl w h2
    · have hcp : cp = l.length := by omega
      subst hcp
      (refine r_nx h40 <| c_sq fun k46 h46 => c_rg <| r_mv rfl rfl <| r_ls Tryz.underlying22 rfl rfl <| r_as rfl rfl <| r_nx h46 <| c_sq fun k48 h48 => c_sq fun k50 h50 => c_rg <| r_mv rfl rfl <| r_eqF rfl rfl rfl (by omega) <| r_nx h50 <| c_cF rfl <| c_sk <| WE.then_n h48 <| c_sq fun k52 h52 => c_rg <| r_mv rfl rfl <| r_ls Tryz.underlying22 rfl rfl <| r_as rfl rfl <| r_nx h52 <| c_sq fun k54 h54 => c_sq fun k56 h56 => c_rg <| r_mv rfl rfl <| r_mv rfl rfl <| r_eqF rfl rfl rfl (by omega) <| r_nx h56 <| c_cF rfl <| c_sk <| WE.then_n h54 <| c_sq fun k58 h58 => c_sq fun k60 h60 => c_rg <| r_mv rfl rfl <| r_mv rfl rfl <| r_ad rfl rfl rfl (wadd64 (by omega)) <| r_mv rfl rfl ?_; rotate_left)
      refine r_cp Tryz.underlying22 rfl rfl ?_
      (refine r_gtT rfl rfl rfl (by omega) <| r_nx h60 <| c_cT rfl <| c_sq fun k62 h62 => c_rg <| r_mv rfl rfl <| r_mv rfl rfl ?_; rotate_left)
      refine r_st0 i elem1 size1 rfl rfl rfl (by omega) rfl ?_
      (refine r_mv rfl rfl <| r_mv rfl rfl <| r_ad rfl rfl rfl (wadd64 (by omega)) <| r_mv rfl rfl <| r_su rfl rfl rfl (wsub64 (by omega)) ?_; rotate_left)
      refine r_zr (kk := l.length + 1 - i) (zv := .int .i32 0) (runes (l.take i)) Tryz.underlying22 Tryz.underlying3 (by kernel_rfl) rfl rfl rfl (by omega) (fun w hw j v hj => ?_) (by simp; omega) (by omega) (by omega) (by omega) rfl (fun q => ?_)
      · have hj2 : (cur.take i)[j]? = some v := by rw [hP]; exact hj
        rw [List.getElem?_take] at hj2
        split at hj2
        · exact hw.rowCell 0 rfl hj2
        · cases hj2
      obtain ⟨g2, c2⟩ := q
      dsimp only
      refine WX.open 0 rfl (by omega) (fun g3 cur3 hv3 hcl3 hct3 hnc3 hcm3 => ?_)
      obtain rfl : g2 = g3 := by injection hv3 with h1; injection h1
      have hP3 : cur3.take i = runes (l.take i) := by
        have h1 : (cur3.take (i + (l.length + 1 - i))).take i = runes (l.take i) := by
          rw [hct3]
          exact List.take_left' (by simp; omega)
        rw [List.take_take, Nat.min_eq_left (by omega)] at h1
        exact h1
      (refine r_as rfl rfl <| r_nx h62 <| c_sq fun k75 h75 => c_rg <| r_mv rfl rfl <| r_mv rfl rfl ?_; rotate_left)
      refine r_sfj i elem1 size1 rfl rfl rfl (by omega) (by omega) rfl ?_
      (refine r_mv rfl rfl ?_; rotate_left)
      refine r_cpy 0 [.int .i32 c] Tryz.underlying22 (by kernel_rfl) rfl rfl rfl (fun w hw j v hj => by rw [addr_add]; exact hw.rowCell 2 rfl hj) (by show 1 = min 1 _; omega) (by simp; omega) hc1 rfl rfl ?_
      (refine r_nx h75 <| c_sq fun k77 h77 => ?_)
      refine WC.stail 8 rfl (by kernel_rfl) (by kernel_rfl) ?_
      refine WS.q (d := 46) (Qv.move rfl) rfl rfl rfl ?_
      refine WS.q (d := 47) (Qv.move rfl) rfl rfl rfl ?_
      refine WS.q (d := 48) (Qv.move rfl) rfl rfl rfl ?_
      refine WS.q (d := 49) (Qv.add rfl rfl (wadd64 (a := (i : Int)) (b := ((1 : Nat) : Int)) (by omega))) rfl rfl rfl ?_
      refine WS.q (d := 50) (Qv.sfj (i + 1) elem1 size1 rfl rfl (by omega) (by omega) (by omega)) rfl rfl rfl ?_
      refine WS.q (d := 51) (Qv.move rfl) rfl rfl rfl ?_
      refine WS.q (d := 52) (Qv.move rfl) rfl rfl rfl ?_
      refine WS.q (d := 53) (Qv.sfj i elem1 size1 rfl rfl rfl (by omega) (by omega)) rfl rfl rfl ?_
      refine WS.nil ?_
      refine WT.ev (d := 54) (Ev.copy 0 (vs := runes (l.drop i)) Tryz.underlying22 (by kernel_rfl) rfl rfl rfl (fun w hw j v hj => by rw [addr_add2]; exact hw.rowCell 1 rfl (hcur j v hj)) (by have := Nat.min_eq_left (a := l.length - i) (b := i + (l.length + 1 - i) - (i + 1)) (by omega); rw [hD]; show l.length - i = min _ _; rw [this]) (by rw [hD]; simp; omega) hone rfl) rfl rfl rfl (fun _ _ => ?_)
      refine WT.nil ?_
      (refine WE.then_n h77 <| c_sq fun k81 h81 => c_rg <| r_mv rfl rfl <| r_as rfl rfl <| r_nx h81 <| c_rt <| WE.then_r ?_; rotate_left)
      refine WE.ret1 (some ⟨g2, 0, none⟩, c2) rfl rfl (congrArg (fun n => some (Value.slice (some ⟨g2, 0, none⟩) n c2)) (show i + (l.length + 1 - i) = (insL l i c).length by rw [hlenI]; omega)) trivial (fun w hw => ?_)
      have hfin := ins_A cur3 (runes (l.drop i)) (runes (l.take i)) (.int .i32 c) i hP3 (by simp; omega) (by omega)
      rw [hins] at hfin
      have h2 := Mem.shut 0 (n := i + 1 + (runes (l.drop i)).length) (c := c2) rfl (by simp; omega) (by omega) hcm3 hw
      rw [hfin] at h2
      have hO : OwnR (some ⟨g2, 0, none⟩, c2) (insL l i c) = .own (some ⟨g2, 0, none⟩) c2 (i + 1 + (runes (l.drop i)).length) (runes (insL l i c)) 21 1 := by
        show Res.own _ _ (insL l i c).length _ _ _ = _
        rw [hlenI, show l.length + 1 = i + 1 + (runes (l.drop i)).length by rw [hD]; omega]
      show Mem w0 ([OwnR (some ⟨g2, 0, none⟩, c2) (insL l i c)] ++ m0) w
      rw [hO]
      exact Mem.pick [0] (by decide) rfl w h2
end Go.Proofs.YthnabbidlmihbaaGreatDoor

/- puny.Decode: the walk. -/
namespace Go.Proofs.YthnabbidlmihbaaGreatDoor
open Go.RowKit Go.Gp

/-- Plain bytes as code points. -/
def asc (s : ByteArray) : List Int := s.data.toList.map fun b => (b.toNat : Int)
theorem asc_length (s : ByteArray) : (asc s).length = s.size := by simp [asc]
theorem runesFrom_asc (s : ByteArray) (h : ∀ b ∈ s.data.toList, b.toNat < 128) : ∀ (k i : Nat) (acc : Array Value), i + k = s.size → Conv.runesFrom s k i acc = acc ++ (runes ((asc s).drop i)).toArray
  | 0, i, acc, hk => by
    have : (asc s).drop i = [] := List.drop_eq_nil_of_le (by rw [asc_length]; omega)
    rw [this]
    simp [Conv.runesFrom]
  | k + 1, i, acc, hk => by
    have hlt : i < s.size := by omega
    have hb : (s[i]'hlt).toNat < 128 := h _ (by
      have : s[i]'hlt = s.data.toList[i]'(by simpa using hlt) := by simp; rfl
      rw [this]
      exact List.getElem_mem _)
    have hla : i < (asc s).length := by rw [asc_length]; exact hlt
    rw [Conv.runesFrom, if_pos hlt, decode_ascii s i hlt hb]
    dsimp only
    rw [runesFrom_asc s h k (i + 1) _ (by omega), List.drop_eq_getElem_cons hla]
    have e : (asc s)[i] = ((s[i]'hlt).toNat : Int) := by
      simp [asc]
      rfl
    rw [e]
    apply Array.ext'
    simp
section
variable {C : Cx} {Q : Po} {l : List (Nat × Value)} {m : List Res} {ops : Array Oper} {rest : List Oper} {ty : TypeId} {pos : String} {af : Array Edge} {g : Option (Nat × Bool)} {d : Nat} {x : Operand} {t t2 e : TypeId}
theorem grown_da (w : World) (o : Obj) : w.grownBy (w.drew.alloc o) none :=
  let q := World.grownBy_alloc w.drew o none
  ⟨q.os, q.tape, q.output, q.size, q.block⟩
/-- []rune(s) of plain bytes. -/
theorem r_ru {s : ByteArray} (hs : C.P.underlying t = some .string) (hd : C.P.underlying t2 = some (.slice e)) (he : C.P.underlying e = some (.int .i32)) (hx : opv l x = some (.string s)) (ha : ∀ b ∈ s.data.toList, b.toNat < 128) (hn : s.size ≤ 1000000) (h : okk ops l g d C.n = true)
    (cc : ∀ p : Option Addr × Nat, WX false C Q ops rest ((d, SlR p (asc s)) :: l) (.own p.1 p.2 (asc s).length (runes (asc s)) e 1 :: m)) :
    WX false C Q ops (⟨some d, .convert t t2 x, ty, pos, af, g⟩ :: rest) l m :=
  WX.ev (α := Option Addr × Nat) (φ := fun _ => True) (v := fun p => SlR p (asc s)) (m' := fun p => .own p.1 p.2 (asc s).length (runes (asc s)) e 1 :: m) (fun ev hev w hw => by
    have h1 : Conv.runesFrom s s.size 0 #[] = (runes (asc s)).toArray := by rw [runesFrom_asc s ha s.size 0 #[] (by omega)]; simp
    have hsz : (runes (asc s)).toArray.size = (asc s).length := by simp
    have hrun := run_runes_of_string (P := C.P) w t t2 e s hs hd he (by rw [h1, hsz, asc_length]; omega)
    rw [h1, hsz] at hrun
    have hge := grownCap_ge w (asc s).length 0 e
    have hle := grownCap_le_maxLen w (asc s).length 0 e (by rw [asc_length]; unfold maxLen; omega)
    refine ⟨(some ⟨w.heap.size, 0, none⟩, grownCap w (asc s).length 0 e), w.drew.alloc (.cells ((runes (asc s)).toArray ++ Array.replicate (grownCap w (asc s).length 0 e - (asc s).length) (.int .i32 0)) e), trivial, ?_, ?_⟩
    · simp [execOp, hev x _ hx, hrun]
    · have hgb : w.grownBy (w.drew.alloc (.cells ((runes (asc s)).toArray ++ Array.replicate (grownCap w (asc s).length 0 e - (asc s).length) (.int .i32 0)) e)) none :=
        grown_da w _
      refine Mem.add hw hgb (r := .own (some ⟨w.heap.size, 0, none⟩) (grownCap w (asc s).length 0 e) (asc s).length (runes (asc s)) e 1) ?_ (fun k hk => by simp [Res.block] at hk; omega)
      refine ⟨by simp, .inr ⟨w.heap.size, grownCap w (asc s).length 0 e, _, rfl, hw.bnd, heap_alloc_new w.drew _, hge, hle, ?_, ?_⟩⟩
      · simp; omega
      · simp only [Array.toList_append]
        exact List.take_left' (by simp)) rfl (okk_1 h) (okk_2 h) rfl (fun p _ => cc p)
end
def decL : Nat → ByteArray → List Int → Int → Int → Int → Option (List Int)
  | 0, _, _, _, _, _ => none
  | f + 1, s, l, n, i, bias =>
    if s.size = 0 then some l
    else if (readP s bias).2 = 0 ∨ 1099511627776 < i + (readP s bias).1 then none
    else if 1114111 < n + (i + (readP s bias).1) / ((l.length : Int) + 1) ∨ ¬ ScP (n + (i + (readP s bias).1) / ((l.length : Int) + 1)) then none
    else decL f (s.extract (readP s bias).2.toNat s.size) (insL l ((i + (readP s bias).1) % ((l.length : Int) + 1)).toNat (n + (i + (readP s bias).1) / ((l.length : Int) + 1)))
      (n + (i + (readP s bias).1) / ((l.length : Int) + 1)) ((i + (readP s bias).1) % ((l.length : Int) + 1) + 1) (adaptP (readP s bias).1 ((l.length : Int) + 1) (decide (i = 0)))
theorem readL_bd (bias : Int) (hb : 0 ≤ bias ∧ bias ≤ 1000) : ∀ (r : List UInt8) (a : Nat) (i w : Int), (0 ≤ i ∧ i ≤ 1099511627776) → 1 ≤ w → (0 ≤ (readL bias r a i w).1 ∧ (readL bias r a i w).1 ≤ 1099511627776) ∧ ((readL bias r a i w).2 = 0 ∨ (1 ≤ (readL bias r a i w).2 ∧ (readL bias r a i w).2 ≤ a + r.length))
  | [], a, i, w, h1, h2 => by simp [readL]
  | c :: r, a, i, w, h1, h2 => by
    rw [readL]
    split
    · simp
    · rename_i g1
      have m5 : 0 ≤ valD (lowB c) * w := Int.mul_nonneg (by omega) (by omega)
      split
      · simp; omega
      · split
        · simp
        · have ht := thrP_bd (((a : Int) + 1) * 36) bias
          have m4 : w * 10 ≤ w * (36 - thrP (((a : Int) + 1) * 36) bias) := Int.mul_le_mul_of_nonneg_left (by omega) (by omega)
          have := readL_bd bias hb r (a + 1) (i + valD (lowB c) * w) (w * (36 - thrP (((a : Int) + 1) * 36) bias)) (by omega) (by omega)
          simp only [List.length_cons]
          omega
theorem readP_bd (s : ByteArray) (bias : Int) (hb : 0 ≤ bias ∧ bias ≤ 1000) : (0 ≤ (readP s bias).1 ∧ (readP s bias).1 ≤ 1099511627776) ∧ ((readP s bias).2 = 0 ∨ (1 ≤ (readP s bias).2 ∧ (readP s bias).2 ≤ s.size)) := by
  have := readL_bd bias hb s.data.toList 0 0 1 (by omega) (by omega)
  have e : s.data.toList.length = s.size := by simp
  unfold readP
  omega
def sPuny : ByteArray := ⟨#[112, 117, 110, 121]⟩
set_option maxRecDepth 100000 in
theorem wrong_spec (w0 : World) (m0 : List Res) : Ct (α := Nat) Tryz.prog 38 [] w0 [] m0 (fun _ => True) (fun b => ecv [(b, sPuny)] 2) (fun b => ecm [(b, sPuny)] 2) := by
  refine Ct.of Tryz.func38 rfl (by kernel_rfl) rfl ?_
  (refine c_sq fun k3 h3 => c_rg <| r_as rfl rfl <| r_nx h3 <| c_sq fun k5 h5 => c_rg <| r_mi rfl (fun _ => by kernel_rfl) rfl ?_; rotate_left)
  refine WX.call (m1 := []) (m2 := []) rfl rfl rfl (wrap_spec sPuny [] 2 _ _) rfl rfl (fun b _ => ?_)
  (refine r_as rfl rfl <| r_nx h5 <| c_rt ?_; rotate_left)
  exact WE.ret1 b rfl rfl rfl trivial Mem.keep
set_option maxRecDepth 100000 in
theorem noneD_spec (w0 : World) (m0 : List Res) : Ct (α := Nat) Tryz.prog 37 [] w0 [] m0 (fun _ => True) (fun b => .tuple #[.slice none 0 0, ecv [(b, sPuny)] 2]) (fun b => ecm [(b, sPuny)] 2) := by
  refine Ct.of Tryz.func37 rfl (by kernel_rfl) rfl ?_
  (refine c_sq fun k3 h3 => c_rg <| r_as rfl rfl <| r_as rfl rfl <| r_nx h3 <| c_sq fun k5 h5 => c_rg ?_; rotate_left)
  refine WX.call (m1 := []) (m2 := []) rfl rfl rfl (wrong_spec _ _) rfl rfl (fun b _ => ?_)
  (refine r_as rfl rfl <| r_as rfl rfl <| r_nx h5 <| c_rt ?_; rotate_left)
  exact WE.ret2 b rfl rfl rfl rfl rfl trivial Mem.keep

def decP (s : ByteArray) : Option (List Int) :=
  if s.data.toList.any (fun b => decide (128 ≤ b.toNat)) then none
  else if 0 < lastL s.data.toList 45 s.size then decL (s.size + 1) (s.extract (lastL s.data.toList 45 s.size + 1).toNat s.size) (asc (s.extract 0 (lastL s.data.toList 45 s.size).toNat)) 128 0 72
  else decL (s.size + 1) s [] 128 0 72
def decV : Option (List Int) → Nat × (Option Addr × Nat) → Value
  | none, x => .tuple #[.slice none 0 0, ecv [(x.1, sPuny)] 2]
  | some l, x => .tuple #[SlR x.2 l, .nilIface]
def decM : Option (List Int) → Nat × (Option Addr × Nat) → List Res
  | none, x => ecm [(x.1, sPuny)] 2
  | some l, x => [OwnR x.2 l]
set_option maxRecDepth 100000 in
theorem decode_spec (s : ByteArray) (hs : s.size ≤ 65536) (w0 : World) (m0 : List Res) :
    Ct (α := Nat × (Option Addr × Nat)) Tryz.prog 18 [.string s] w0 [] m0 (fun _ => True) (decV (decP s)) (decM (decP s)) := by
  refine Ct.of Tryz.func18 rfl (by kernel_rfl) rfl ?_
  (refine c_sq fun k5 h5 => c_rg <| r_as rfl rfl <| r_as rfl rfl <| r_nx h5 <| c_sq fun k7 h7 => c_rg <| r_as rfl rfl <| r_nx h7 <| c_sq fun k9 h9 => c_sq fun k11 h11 => c_rg <| r_mv rfl rfl <| r_lS Tryz.underlying9 rfl rfl <| r_gtF rfl rfl rfl (by omega) <| r_nx h11 <| c_cF rfl <| c_sk <| WE.then_n h9 <| c_sq fun k13 h13 => c_sq fun k15 h15 => c_rg <| r_mv rfl rfl <| r_lS Tryz.underlying9 rfl rfl <| r_mv rfl rfl <| r_nx h15 <| c_bl ?_; rotate_left)
  refine WC.loop (α := Nat) (fun i => [(0, .string s), (4, .func (.func 37) #[] #[]), (21, .int .i64 s.size), (22, .int .i64 i)]) (fun _ => []) (fun i => i ≤ s.size ∧ ∀ j, j < i → (s.data.toList.getD j 0).toNat < 128) (fun i => s.size - i) 0 ⟨by omega, by omega⟩ ⟨rfl, rfl, rfl, rfl, trivial⟩ Mem.keep ?_
  rintro i ⟨hi, hb⟩
  by_cases hlt : i < s.size
  · have h256 := (s.data.toList.getD i 0).toNat_lt
    (refine c_sq fun k22 h22 => c_rg <| r_ltT rfl rfl rfl (by omega) <| r_nx h22 <| c_sq fun k24 h24 => c_cT rfl <| c_sk <| WE.then_n h24 <| c_sq fun k26 h26 => c_bl <| c_sq fun k28 h28 => c_rg <| r_mv rfl rfl <| r_as rfl rfl <| r_nx h28 <| c_sq fun k30 h30 => c_rg <| r_mv rfl rfl <| r_mv rfl rfl ?_; rotate_left)
    refine r_iS (v := s.data.toList.getD i 0) Tryz.underlying9 rfl rfl rfl (by omega) (byte_at s hlt) ?_
    by_cases hc : (s.data.toList.getD i 0).toNat < 128
    · (refine r_geF rfl rfl rfl (by omega) <| r_nx h30 <| c_cF rfl <| c_sk <| WE.blk_n <| WE.then_n h26 <| c_rg <| r_ad rfl rfl rfl (wadd64 (by omega)) <| r_mv rfl rfl <| r_nl ?_; rotate_left)
      exact WE.back (i + 1) ⟨by omega, fun j hj => by
        rcases Nat.lt_succ_iff_lt_or_eq.1 hj with h | h
        · exact hb j h
        · rw [h]; exact hc⟩ (by omega) ⟨rfl, rfl, rfl, rfl, trivial⟩ Mem.keep
    · have hP : decP s = none := by
        have : s.data.toList.any (fun b => decide (128 ≤ b.toNat)) = true := by
          rw [List.any_eq_true]
          have h2 : i < s.data.toList.length := by simpa using hlt
          refine ⟨s.data.toList.getD i 0, ?_, decide_eq_true (by omega)⟩
          rw [List.getD_eq_getElem?_getD, List.getElem?_eq_getElem h2]
          exact List.getElem_mem _
        rw [decP, if_pos this]
      (refine r_geT rfl rfl rfl (by omega) <| r_nx h30 <| c_cT rfl <| c_sq fun k34 h34 => c_rg <| r_mv rfl rfl ?_; rotate_left)
      refine WX.call (m1 := []) (m2 := []) rfl rfl rfl (noneD_spec _ _) rfl rfl (fun b _ => ?_)
      (refine r_ex rfl rfl rfl <| r_ex rfl rfl rfl <| r_as rfl rfl <| r_as rfl rfl <| r_nx h34 <| c_rt <| WE.blk_r <| WE.then_r <| WE.then_r <| WE.blk_r <| WE.then_r ?_; rotate_left)
      exact WE.ret2 (b, none, 0) rfl rfl rfl rfl (by rw [hP]; rfl) trivial (by rw [hP]; exact Mem.keep)
  · have hall : ∀ b ∈ s.data.toList, b.toNat < 128 := by
      intro b hbm
      obtain ⟨j, hj, rfl⟩ := List.mem_iff_getElem.1 hbm
      have hj' : j < s.size := by have h3 := hj; simp at h3; exact h3
      have := hb j (by omega)
      rw [List.getD_eq_getElem?_getD, List.getElem?_eq_getElem hj] at this
      exact this
    have hany : s.data.toList.any (fun b => decide (128 ≤ b.toNat)) = false := by
      rw [List.any_eq_false]
      intro b hbm
      have := hall b hbm
      simp
      omega
    have hat := lastL_bd s.data.toList 45 s.size
    have hP : decP s = (if 0 < lastL s.data.toList 45 s.size then decL (s.size + 1) (s.extract (lastL s.data.toList 45 s.size + 1).toNat s.size) (asc (s.extract 0 (lastL s.data.toList 45 s.size).toNat)) 128 0 72 else decL (s.size + 1) s [] 128 0 72) := by
      rw [decP, if_neg (by rw [hany]; decide)]
    (refine c_sq fun k25 h25 => c_rg <| r_ltF rfl rfl rfl (by omega) <| r_nx h25 <| c_sq fun k27 h27 => c_cF rfl <| c_ex <| WE.then_x <| WE.then_x <| WE.blk_x <| WE.then_n h13 <| c_sq fun k29 h29 => c_rg <| r_as rfl rfl <| r_nx h29 ?_)
    refine WC.cut (α := ByteArray × List Int × (Option Addr × Nat)) (fun x => [(0, .string x.1), (4, .func (.func 37) #[] #[]), (6, SlR x.2.2 x.2.1)]) (fun x => [OwnR x.2.2 x.2.1]) (fun x => decL (s.size + 1) x.1 x.2.1 128 0 72 = decP s ∧ x.1.size + x.2.1.length ≤ s.size) ?_ ?_
    · (refine c_sq fun k31 h31 => c_rg <| r_mv rfl rfl ?_; rotate_left)
      refine WX.pure rfl rfl (last_spec s 45 (by omega) _ _) rfl rfl ?_
      generalize lastL s.data.toList 45 s.size = la at hat hP
      by_cases h0 : 0 < la
      · rw [if_pos h0] at hP
        (refine r_as rfl rfl <| r_nx h31 <| c_sq fun k38 h38 => c_rg <| r_mv rfl rfl <| r_gtT rfl rfl rfl (by omega) <| r_nx h38 <| c_cT rfl <| c_sq fun k40 h40 => c_rg <| r_mv rfl rfl <| r_mv rfl rfl ?_; rotate_left)
        refine r_sT Tryz.underlying9 rfl rfl (by omega) (by omega) rfl ?_
        have hx0 : (s.extract 0 la.toNat).size = la.toNat := by rw [ByteArray.size_extract]; omega
        have hx1 : (s.extract (la + 1).toNat s.size).size = s.size - (la + 1).toNat := by rw [ByteArray.size_extract]; omega
        refine r_ru Tryz.underlying9 Tryz.underlying22 Tryz.underlying21 rfl (fun b hb => hall b (by
          rw [ByteArray.data_extract] at hb
          simp at hb
          exact List.mem_of_mem_take hb)) (by omega) rfl (fun p => ?_)
        (refine r_as rfl rfl <| r_nx h40 <| c_rg <| r_mv rfl rfl <| r_mv rfl rfl <| r_ad rfl rfl rfl (wadd64 (by omega)) ?_; rotate_left)
        refine r_sF Tryz.underlying9 rfl rfl (by omega) (by omega) rfl ?_
        (refine r_as rfl rfl <| r_nl ?_; rotate_left)
        exact WE.met (s.extract (la + 1).toNat s.size, asc (s.extract 0 la.toNat), p) ⟨hP.symm, by dsimp only; rw [asc_length]; omega⟩ ⟨rfl, rfl, rfl, trivial⟩ Mem.keep
      · rw [if_neg h0] at hP
        (refine r_as rfl rfl <| r_nx h31 <| c_sq fun k38 h38 => c_rg <| r_mv rfl rfl <| r_gtF rfl rfl rfl (by omega) <| r_nx h38 <| c_cF rfl <| c_sk ?_; rotate_left)
        exact WE.met (s, [], (none, 0)) ⟨hP.symm, by simp⟩ ⟨rfl, rfl, rfl, trivial⟩ (Mem.nilOwn _ _)
    · rintro ⟨s1, l0, p⟩ ⟨e, hz⟩
      dsimp only at e hz ⊢
      (refine c_sq fun k36 h36 => c_rg <| r_as rfl rfl <| r_as rfl rfl <| r_as rfl rfl <| r_nx h36 <| c_sq fun k38 h38 => c_bl ?_; rotate_left)
      refine WC.loop (α := Nat × ByteArray × List Int × Int × Int × Int × (Option Addr × Nat)) (fun x => [(0, .string x.2.1), (4, .func (.func 37) #[] #[]), (6, SlR x.2.2.2.2.2.2 x.2.2.1), (8, .int .i64 x.2.2.2.1), (9, .int .i64 x.2.2.2.2.1), (10, .int .i64 x.2.2.2.2.2.1)])
        (fun x => [OwnR x.2.2.2.2.2.2 x.2.2.1]) (fun x => decL x.1 x.2.1 x.2.2.1 x.2.2.2.1 x.2.2.2.2.1 x.2.2.2.2.2.1 = decP s ∧ x.2.1.size < x.1 ∧ x.2.1.size + x.2.2.1.length ≤ s.size ∧ (128 ≤ x.2.2.2.1 ∧ x.2.2.2.1 ≤ 1114111) ∧ (0 ≤ x.2.2.2.2.1 ∧ x.2.2.2.2.1 ≤ x.2.2.1.length) ∧ (0 ≤ x.2.2.2.2.2.1 ∧ x.2.2.2.2.2.1 ≤ 1000))
        (fun x => x.2.1.size) (s.size + 1, s1, l0, 128, 0, 72, p) ⟨e, by dsimp only; omega, hz, by dsimp only; omega, by dsimp only; omega, by dsimp only; omega⟩ ⟨rfl, rfl, rfl, rfl, rfl, rfl, trivial⟩ Mem.keep ?_
      clear e hz s1 l0 p
      rintro ⟨f, s2, l, n, i, bias, p⟩ ⟨e, h1, h2, h3, h4, h5⟩
      dsimp only at e h1 h2 h3 h4 h5 ⊢
      cases f with
      | zero => omega
      | succ f =>
        rw [decL] at e
        by_cases hz : s2.size = 0
        · rw [if_pos hz] at e
          (refine c_sq fun k59 h59 => c_sq fun k61 h61 => c_rg <| r_mv rfl rfl <| r_lS Tryz.underlying9 rfl rfl <| r_gtF rfl rfl rfl (by omega) <| r_nx h61 <| c_cF rfl <| c_ex <| WE.then_x <| WE.then_x <| WE.blk_x <| WE.then_n h38 <| c_sq fun k63 h63 => c_rg <| r_mv rfl rfl <| r_as rfl rfl <| r_as rfl rfl <| r_nx h63 <| c_rt ?_; rotate_left)
          exact WE.ret2 (0, p) rfl rfl rfl rfl (by rw [← e]; rfl) trivial (by rw [← e]; exact Mem.keep)
        · rw [if_neg hz] at e
          obtain ⟨r1, r2⟩ := readP_bd s2 bias h5
          (refine c_sq fun k61 h61 => c_sq fun k63 h63 => c_rg <| r_mv rfl rfl <| r_lS Tryz.underlying9 rfl rfl <| r_gtT rfl rfl rfl (by omega) <| r_nx h63 <| c_cT rfl <| c_sk <| WE.then_n h61 <| c_bl <| c_sq fun k65 h65 => c_rg <| r_mv rfl rfl <| r_mv rfl rfl ?_; rotate_left)
          refine WX.pure rfl rfl (read_spec s2 bias (by omega) h5 _ _) rfl rfl ?_
          generalize (readP s2 bias).1 = q at e r1 ⊢
          generalize (readP s2 bias).2 = mn at e r2 ⊢
          by_cases c1 : mn = 0
          · rw [if_pos (.inl c1)] at e
            (refine r_mv rfl rfl <| r_ex rfl rfl rfl <| r_ex rfl rfl rfl <| r_as rfl rfl <| r_as rfl rfl <| r_nx h65 <| c_sq fun k75 h75 => c_sq fun k77 h77 => c_rg <| r_mv rfl rfl <| r_eqT rfl rfl rfl (by omega) <| r_mv rfl rfl <| r_sk rfl rfl <| r_sk rfl rfl <| r_sk rfl rfl <| r_sk rfl rfl <| r_pT rfl rfl rfl <| r_nx h77 <| c_cT rfl <| c_sq fun k79 h79 => c_rg <| r_mv rfl rfl ?_; rotate_left)
            refine WX.call (m1 := []) (m2 := [OwnR p l]) rfl rfl rfl (noneD_spec _ _) rfl rfl (fun b _ => ?_)
            (refine r_ex rfl rfl rfl <| r_ex rfl rfl rfl <| r_as rfl rfl <| r_as rfl rfl <| r_nx h79 <| c_rt <| WE.then_r <| WE.blk_r <| WE.then_r <| WE.blk_r <| WE.then_r ?_; rotate_left)
            exact WE.ret2 (b, p) rfl rfl rfl rfl (by rw [← e]; rfl) trivial (by rw [← e]; exact Mem.pick [0] (by decide) rfl)
          · by_cases c2 : 1099511627776 < i + q
            · rw [if_pos (.inr c2)] at e
              (refine r_mv rfl rfl <| r_ex rfl rfl rfl <| r_ex rfl rfl rfl <| r_as rfl rfl <| r_as rfl rfl <| r_nx h65 <| c_sq fun k76 h76 => c_sq fun k78 h78 => c_rg <| r_mv rfl rfl <| r_eqF rfl rfl rfl (by omega) <| r_mv rfl rfl <| r_mv rfl rfl <| r_mv rfl rfl <| r_ad rfl rfl rfl (wadd64 (by omega)) <| r_gtT rfl rfl rfl (by omega) <| r_pF rfl rfl rfl <| r_nx h78 <| c_cT rfl <| c_sq fun k80 h80 => c_rg <| r_mv rfl rfl ?_; rotate_left)
              refine WX.call (m1 := []) (m2 := [OwnR p l]) rfl rfl rfl (noneD_spec _ _) rfl rfl (fun b _ => ?_)
              (refine r_ex rfl rfl rfl <| r_ex rfl rfl rfl <| r_as rfl rfl <| r_as rfl rfl <| r_nx h80 <| c_rt <| WE.then_r <| WE.blk_r <| WE.then_r <| WE.blk_r <| WE.then_r ?_; rotate_left)
              exact WE.ret2 (b, p) rfl rfl rfl rfl (by rw [← e]; rfl) trivial (by rw [← e]; exact Mem.pick [0] (by decide) rfl)
            · rw [if_neg (by omega)] at e
              have d0 : 0 ≤ (i + q) / ((l.length : Int) + 1) := Int.ediv_nonneg (by omega) (by omega)
              have d1 : (i + q) / ((l.length : Int) + 1) ≤ i + q := Int.ediv_le_self _ (by omega)
              have d2 : 0 ≤ (i + q) % ((l.length : Int) + 1) := Int.emod_nonneg _ (by omega)
              have d3 : (i + q) % ((l.length : Int) + 1) < (l.length : Int) + 1 := Int.emod_lt_of_pos _ (by omega)
              have hA := adaptP_bd (delta := q) (many := (l.length : Int) + 1) (by omega) (decide (i = 0))
              have hx : (s2.extract mn.toNat s2.size).size = s2.size - mn.toNat := by rw [ByteArray.size_extract]; omega
              (refine r_mv rfl rfl <| r_ex rfl rfl rfl <| r_ex rfl rfl rfl <| r_as rfl rfl <| r_as rfl rfl <| r_nx h65 <| c_sq fun k82 h82 => c_sq fun k84 h84 => c_rg <| r_mv rfl rfl <| r_eqF rfl rfl rfl (by omega) <| r_mv rfl rfl <| r_mv rfl rfl <| r_mv rfl rfl <| r_ad rfl rfl rfl (wadd64 (by omega)) <| r_gtF rfl rfl rfl (by omega) <| r_pF rfl rfl rfl <| r_nx h84 <| c_cF rfl <| c_sk <| WE.then_n h82 <| c_sq fun k86 h86 => c_rg <| r_mv rfl rfl <| r_mv rfl rfl ?_; rotate_left)
              refine r_sF Tryz.underlying9 rfl rfl (by omega) (by omega) rfl ?_
              have ha : ∀ m1, PureC Tryz.prog 41 [.int .i64 q, .int .i64 ((l.length : Int) + 1), .bool (decide (i = 0))] w0 m1 (.int .i64 (adaptP q ((l.length : Int) + 1) (decide (i = 0)))) := fun m1 => adapt_spec q ((l.length : Int) + 1) (decide (i = 0)) (by omega) w0 m1
              generalize adaptP q ((l.length : Int) + 1) (decide (i = 0)) = bias2 at e hA ha
              by_cases i0 : i = 0
              · rw [decide_eq_true i0] at ha
                (refine r_as rfl rfl <| r_nx h86 <| c_sq fun k94 h94 => c_rg <| r_mv rfl rfl <| r_mv rfl rfl <| r_ls Tryz.underlying22 rfl rfl <| r_ad rfl rfl rfl (wadd64 (by omega)) <| r_mv rfl rfl <| r_eqT rfl rfl rfl (by omega) ?_; rotate_left)
                refine WX.pure rfl rfl (ha _) rfl rfl ?_
                (refine r_as rfl rfl <| r_nx h94 <| c_sq fun k96 h96 => c_rg <| r_mv rfl rfl <| r_mv rfl rfl <| r_ad rfl rfl rfl (wadd64 (by omega)) <| r_as rfl rfl <| r_nx h96 <| c_sq fun k98 h98 => c_rg <| r_mv rfl rfl <| r_mv rfl rfl <| r_mv rfl rfl <| r_ls Tryz.underlying22 rfl rfl <| r_ad rfl rfl rfl (wadd64 (by omega)) <| r_qu rfl rfl rfl (by omega) (wquo64 (by omega)) <| r_ad rfl rfl rfl (wadd64 (by omega)) <| r_as rfl rfl <| r_nx h98 <| c_sq fun k100 h100 => c_rg <| r_mv rfl rfl <| r_mv rfl rfl <| r_ls Tryz.underlying22 rfl rfl <| r_ad rfl rfl rfl (wadd64 (by omega)) <| r_re rfl rfl rfl (by omega) (wrem (by omega)) <| r_as rfl rfl <| r_nx h100 <| c_sq fun k102 h102 => c_sq fun k104 h104 => c_rg <| r_mv rfl rfl ?_; rotate_left)
                obtain ⟨k, hk⟩ := Int.eq_ofNat_of_zero_le d2
                rw [hk, Int.toNat_natCast] at e
                rw [hk]
                generalize (i + q) / ((l.length : Int) + 1) = dv at e d0 d1 ⊢
                by_cases v1 : 1114111 < n + dv
                · rw [if_pos (.inl v1)] at e
                  (refine r_gtT rfl rfl rfl (by omega) <| r_mv rfl rfl <| r_sk rfl rfl <| r_sk rfl rfl <| r_sk rfl rfl <| r_sk rfl rfl <| r_pT rfl rfl rfl <| r_nx h104 <| c_cT rfl <| c_sq fun k116 h116 => c_rg <| r_mv rfl rfl ?_; rotate_left)
                  refine WX.call (m1 := []) (m2 := [OwnR p l]) rfl rfl rfl (noneD_spec _ _) rfl rfl (fun b _ => ?_)
                  (refine r_ex rfl rfl rfl <| r_ex rfl rfl rfl <| r_as rfl rfl <| r_as rfl rfl <| r_nx h116 <| c_rt <| WE.then_r <| WE.blk_r <| WE.then_r <| WE.blk_r <| WE.then_r ?_; rotate_left)
                  exact WE.ret2 (b, p) rfl rfl rfl rfl (by rw [← e]; rfl) trivial (by rw [← e]; exact Mem.pick [0] (by decide) rfl)
                · (refine r_gtF rfl rfl rfl (by omega) <| r_mv rfl rfl <| r_mv rfl rfl <| r_cv rfl (cv_int (k' := .i32) rfl Tryz.underlying21 (w32 (by omega))) rfl ?_; rotate_left)
                  by_cases v2 : ScP (n + dv)
                  · rw [if_neg (fun h => h.elim v1 (fun h => h v2))] at e
                    have hv2 : ∀ m1, PureC Tryz.prog 14 [.int .i32 (n + dv)] w0 m1 (.bool true) := fun m1 => by have := validRune_spec (n + dv) w0 m1; rwa [decide_eq_true v2] at this
                    refine WX.pure rfl rfl (hv2 _) rfl rfl ?_
                    (refine r_no rfl rfl rfl <| r_pF rfl rfl rfl <| r_nx h104 <| c_cF rfl <| c_sk <| WE.then_n h102 <| c_sq fun k118 h118 => c_rg <| r_mv rfl rfl <| r_mv rfl rfl <| r_mv rfl rfl <| r_cv rfl (cv_int (k' := .i32) rfl Tryz.underlying21 (w32 (by omega))) rfl <| r_bo Tryz.underlying22 rfl (fun _ => by kernel_rfl) rfl rfl rfl (fun _ => ?_); rotate_left)
                    (rotate_left)
                    rename_i vb
                    refine WX.mem (m' := [OwnR p l, .own (some ⟨vb, 0, none⟩) 1 1 [.int .i32 (n + dv)] 21 1]) (Mem.pick [1, 0] (by decide) rfl) ?_
                    refine WX.call (m1 := [OwnR p l, .own (some ⟨vb, 0, none⟩) 1 1 [.int .i32 (n + dv)] 21 1]) (m2 := []) rfl rfl rfl (insert_spec p l k (n + dv) vb (by omega) (by omega) _ _) rfl rfl (fun p2 _ => ?_)
                    have hl2 := insL_length l k (n + dv) (by omega)
                    (refine r_as rfl rfl <| r_nx h118 <| c_rg <| r_mv rfl rfl <| r_ad rfl rfl rfl (wadd64 (by omega)) <| r_as rfl rfl <| r_nl <| WE.blk_n ?_; rotate_left)
                    exact WE.back (f, s2.extract mn.toNat s2.size, insL l k (n + dv), n + dv, (k : Int) + 1, bias2, p2) ⟨e, by dsimp only; omega, by dsimp only; omega, by dsimp only; omega, by dsimp only; omega, hA⟩ (by dsimp only; omega) ⟨rfl, rfl, rfl, rfl, rfl, rfl, trivial⟩ Mem.keep
                  · rw [if_pos (.inr v2)] at e
                    have hv2 : ∀ m1, PureC Tryz.prog 14 [.int .i32 (n + dv)] w0 m1 (.bool false) := fun m1 => by have := validRune_spec (n + dv) w0 m1; rwa [decide_eq_false v2] at this
                    refine WX.pure rfl rfl (hv2 _) rfl rfl ?_
                    (refine r_no rfl rfl rfl <| r_pF rfl rfl rfl <| r_nx h104 <| c_cT rfl <| c_sq fun k118 h118 => c_rg <| r_mv rfl rfl ?_; rotate_left)
                    refine WX.call (m1 := []) (m2 := [OwnR p l]) rfl rfl rfl (noneD_spec _ _) rfl rfl (fun b _ => ?_)
                    (refine r_ex rfl rfl rfl <| r_ex rfl rfl rfl <| r_as rfl rfl <| r_as rfl rfl <| r_nx h118 <| c_rt <| WE.then_r <| WE.blk_r <| WE.then_r <| WE.blk_r <| WE.then_r ?_; rotate_left)
                    exact WE.ret2 (b, p) rfl rfl rfl rfl (by rw [← e]; rfl) trivial (by rw [← e]; exact Mem.pick [0] (by decide) rfl)
              · rw [decide_eq_false i0] at ha
                (refine r_as rfl rfl <| r_nx h86 <| c_sq fun k94 h94 => c_rg <| r_mv rfl rfl <| r_mv rfl rfl <| r_ls Tryz.underlying22 rfl rfl <| r_ad rfl rfl rfl (wadd64 (by omega)) <| r_mv rfl rfl <| r_eqF rfl rfl rfl (by omega) ?_; rotate_left)
                refine WX.pure rfl rfl (ha _) rfl rfl ?_
                (refine r_as rfl rfl <| r_nx h94 <| c_sq fun k96 h96 => c_rg <| r_mv rfl rfl <| r_mv rfl rfl <| r_ad rfl rfl rfl (wadd64 (by omega)) <| r_as rfl rfl <| r_nx h96 <| c_sq fun k98 h98 => c_rg <| r_mv rfl rfl <| r_mv rfl rfl <| r_mv rfl rfl <| r_ls Tryz.underlying22 rfl rfl <| r_ad rfl rfl rfl (wadd64 (by omega)) <| r_qu rfl rfl rfl (by omega) (wquo64 (by omega)) <| r_ad rfl rfl rfl (wadd64 (by omega)) <| r_as rfl rfl <| r_nx h98 <| c_sq fun k100 h100 => c_rg <| r_mv rfl rfl <| r_mv rfl rfl <| r_ls Tryz.underlying22 rfl rfl <| r_ad rfl rfl rfl (wadd64 (by omega)) <| r_re rfl rfl rfl (by omega) (wrem (by omega)) <| r_as rfl rfl <| r_nx h100 <| c_sq fun k102 h102 => c_sq fun k104 h104 => c_rg <| r_mv rfl rfl ?_; rotate_left)
                obtain ⟨k, hk⟩ := Int.eq_ofNat_of_zero_le d2
                rw [hk, Int.toNat_natCast] at e
                rw [hk]
                generalize (i + q) / ((l.length : Int) + 1) = dv at e d0 d1 ⊢
                by_cases v1 : 1114111 < n + dv
                · rw [if_pos (.inl v1)] at e
                  (refine r_gtT rfl rfl rfl (by omega) <| r_mv rfl rfl <| r_sk rfl rfl <| r_sk rfl rfl <| r_sk rfl rfl <| r_sk rfl rfl <| r_pT rfl rfl rfl <| r_nx h104 <| c_cT rfl <| c_sq fun k116 h116 => c_rg <| r_mv rfl rfl ?_; rotate_left)
                  refine WX.call (m1 := []) (m2 := [OwnR p l]) rfl rfl rfl (noneD_spec _ _) rfl rfl (fun b _ => ?_)
                  (refine r_ex rfl rfl rfl <| r_ex rfl rfl rfl <| r_as rfl rfl <| r_as rfl rfl <| r_nx h116 <| c_rt <| WE.then_r <| WE.blk_r <| WE.then_r <| WE.blk_r <| WE.then_r ?_; rotate_left)
                  exact WE.ret2 (b, p) rfl rfl rfl rfl (by rw [← e]; rfl) trivial (by rw [← e]; exact Mem.pick [0] (by decide) rfl)
                · (refine r_gtF rfl rfl rfl (by omega) <| r_mv rfl rfl <| r_mv rfl rfl <| r_cv rfl (cv_int (k' := .i32) rfl Tryz.underlying21 (w32 (by omega))) rfl ?_; rotate_left)
                  by_cases v2 : ScP (n + dv)
                  · rw [if_neg (fun h => h.elim v1 (fun h => h v2))] at e
                    have hv2 : ∀ m1, PureC Tryz.prog 14 [.int .i32 (n + dv)] w0 m1 (.bool true) := fun m1 => by have := validRune_spec (n + dv) w0 m1; rwa [decide_eq_true v2] at this
                    refine WX.pure rfl rfl (hv2 _) rfl rfl ?_
                    (refine r_no rfl rfl rfl <| r_pF rfl rfl rfl <| r_nx h104 <| c_cF rfl <| c_sk <| WE.then_n h102 <| c_sq fun k118 h118 => c_rg <| r_mv rfl rfl <| r_mv rfl rfl <| r_mv rfl rfl <| r_cv rfl (cv_int (k' := .i32) rfl Tryz.underlying21 (w32 (by omega))) rfl <| r_bo Tryz.underlying22 rfl (fun _ => by kernel_rfl) rfl rfl rfl (fun _ => ?_); rotate_left)
                    (rotate_left)
                    rename_i vb
                    refine WX.mem (m' := [OwnR p l, .own (some ⟨vb, 0, none⟩) 1 1 [.int .i32 (n + dv)] 21 1]) (Mem.pick [1, 0] (by decide) rfl) ?_
                    refine WX.call (m1 := [OwnR p l, .own (some ⟨vb, 0, none⟩) 1 1 [.int .i32 (n + dv)] 21 1]) (m2 := []) rfl rfl rfl (insert_spec p l k (n + dv) vb (by omega) (by omega) _ _) rfl rfl (fun p2 _ => ?_)
                    have hl2 := insL_length l k (n + dv) (by omega)
                    (refine r_as rfl rfl <| r_nx h118 <| c_rg <| r_mv rfl rfl <| r_ad rfl rfl rfl (wadd64 (by omega)) <| r_as rfl rfl <| r_nl <| WE.blk_n ?_; rotate_left)
                    exact WE.back (f, s2.extract mn.toNat s2.size, insL l k (n + dv), n + dv, (k : Int) + 1, bias2, p2) ⟨e, by dsimp only; omega, by dsimp only; omega, by dsimp only; omega, by dsimp only; omega, hA⟩ (by dsimp only; omega) ⟨rfl, rfl, rfl, rfl, rfl, rfl, trivial⟩ Mem.keep
                  · rw [if_pos (.inr v2)] at e
                    have hv2 : ∀ m1, PureC Tryz.prog 14 [.int .i32 (n + dv)] w0 m1 (.bool false) := fun m1 => by have := validRune_spec (n + dv) w0 m1; rwa [decide_eq_false v2] at this
                    refine WX.pure rfl rfl (hv2 _) rfl rfl ?_
                    (refine r_no rfl rfl rfl <| r_pF rfl rfl rfl <| r_nx h104 <| c_cT rfl <| c_sq fun k118 h118 => c_rg <| r_mv rfl rfl ?_; rotate_left)
                    refine WX.call (m1 := []) (m2 := [OwnR p l]) rfl rfl rfl (noneD_spec _ _) rfl rfl (fun b _ => ?_)
                    (refine r_ex rfl rfl rfl <| r_ex rfl rfl rfl <| r_as rfl rfl <| r_as rfl rfl <| r_nx h118 <| c_rt <| WE.then_r <| WE.blk_r <| WE.then_r <| WE.blk_r <| WE.then_r ?_; rotate_left)
                    exact WE.ret2 (b, p) rfl rfl rfl rfl (by rw [← e]; rfl) trivial (by rw [← e]; exact Mem.pick [0] (by decide) rfl)
end Go.Proofs.YthnabbidlmihbaaGreatDoor

/- Ranging over a function: the loop's record as a resource, a call of yield as a contract, the statement, the way back with a mark among the deferred calls. -/
set_option linter.unusedSimpArgs false
set_option linter.unusedVariables false
namespace Go.Gp
open Go.RowKit

theorem Mem.putObj {w0 w : World} {m m0 : List Res} {i b : Nat} {o o' : Obj} (hw : Mem w0 (m ++ m0) w) (hi : m[i]? = some (.obj b o)) : Mem w0 (m.set i (.obj b o') ++ m0) (w.putObj b o') := by
  have hlt : i < m.length := (List.getElem?_eq_some_iff.1 hi).1
  have hi' : (m ++ m0)[i]? = some (.obj b o) := by rw [List.getElem?_append_left hlt]; exact hi
  have hb := at_lt (hw.all i _ hi') b rfl
  rw [← List.set_append_left _ _ hlt]
  refine hw.upd hi' ⟨rfl, rfl, rfl, by simp, fun k hk hne => ?_⟩ ⟨hb.1, World.putObj_heap_same hb.2⟩ (fun k hk => .inl hk)
  exact World.putObj_heap_other (fun e => hne (by rw [e]; rfl))
theorem Mem.heapObj {w0 w : World} {m m0 : List Res} {i b : Nat} {o : Obj} (hw : Mem w0 (m ++ m0) w) (hi : m[i]? = some (.obj b o)) : w.heap[b]? = some o := ((Mem.appL hw).all i _ hi).2

/-- What a call of yield comes to. -/
def YCt {α : Type} (P : Program) (lp : Nat) (args : List Value) (w0 : World) (m m0 : List Res) (φ : α → Prop) (val : α → Value) (M : α → List Res) : Prop :=
  ∀ w, Mem w0 (m ++ m0) w → YieldAt Fence.wide 0 P lp args.toArray w (sp w0 m0 φ val M)

section
variable {C : Cx} {Q : Po} {l : List (Nat × Value)} {m : List Res} {ops : Array Oper} {rest : List Oper}
theorem WX.yield {α : Type} {φ : α → Prop} {val : α → Value} {M : α → List Res} {d : Nat} {ty : TypeId} {pos : String} {af : Array Edge} {g : Option (Nat × Bool)} {fo : Operand} {xs : List Operand} {ts : Array TypeId} {lp : Nat} {vs : List Value} {m1 m2 : List Res}
    (hfo : opv l fo = some (.func (.yield lp) #[] #[])) (hxs : opvs l xs = some vs) (hm : m = m1 ++ m2) (hsp : YCt C.P lp vs C.w0 m1 (m2 ++ C.m0) φ val M) (hdn : Nat.blt d C.n = true) (hg : wants ops l g = some true)
    (k : ∀ x, φ x → WX false C Q ops rest ((d, val x) :: l) (M x ++ m2)) : WX false C Q ops (⟨some d, .call { callee := .value fo, args := xs.toArray, argTypes := ts }, ty, pos, af, g⟩ :: rest) l m := by
  show WX false C Q ops _ l m
  unfold WX WL at k ⊢
  intro a w hs
  refine wpListIn_wanted (wanted_of hs.1 hg) rfl ?_
  obtain ⟨fn, tmps, assign, body, hy, hF, hR⟩ := hsp w (by rw [← List.append_assoc, ← hm]; exact hs.2)
  have hrun : (execOp a.eval ⟨some d, .call { callee := .value fo, args := xs.toArray, argTypes := ts }, ty, pos, af, g⟩).run C.P w = .ok (.round lp fn tmps assign body) w := by
    have h1 := opvs_map (ev_of hs.1) xs vs hxs
    simp [execOp, resolve, hs.1.eval hfo, Deferred.ofValue, Go.invoke, h1, hy]
  rw [hrun, Oper.uponIn_round]
  refine ⟨fun h => by simp [FW] at h, trivial, fun c cs hroom => ?_⟩
  obtain ⟨e, w', hsp', hcome⟩ := hR c cs (room_wide _)
  refine ⟨e, w', ?_, hcome⟩
  obtain ⟨x, hx, rfl, hmem⟩ := hsp'
  refine k x hx _ _ ⟨hs.1.put d _ hdn, ?_⟩
  rw [List.append_assoc]
  exact hmem

/-- What stands behind the assignment to the loop's variable. -/
def RB (P : Program) (lp : Nat) (body : Code) (R : Ending → World → Prop) : Act → World → Prop := fun a w => ∃ w₂, (Instr.beginRound lp).run P w = .ok () w₂ ∧ body.wpIn (FW (some lp)) 0 P (roundPost P lp R) a w₂

theorem YCt.of {α : Type} {P : Program} {w0 : World} {m0 : List Res} {φ : α → Prop} {val : α → Value} {M : α → List Res} {lp p n : Nat} {v : Value} {r : Loop} (i : Nat) (hr : r.params = #[p]) (hp : Nat.blt p n = true) (hsl : Sl n [] l ⟨r.tmps, []⟩)
    (hi : m[i]? = some (.obj lp (.loop r))) (h : WC ⟨some lp, P, n, [], w0, m0⟩ (Exit.then (RB P lp r.body (sp w0 m0 φ val M)) (fun _ _ _ => False)) r.assign ((p, v) :: l) m) : YCt P lp [v] w0 m m0 φ val M := by
  intro w hw
  unfold WC at h
  have hl := Mem.heapObj hw hi
  refine ⟨r.fn, r.tmps.setIfInBounds p v, r.assign, r.body, ?_, ?_⟩
  · rw [run_yield hl (by rw [hr]; rfl)]
    simp [hr]
  · refine roundIn_of_wpIn trivial ?_
    exact h { tmps := r.tmps.setIfInBounds p v, defers := [] } w ⟨hsl.put p v hp, hw⟩

theorem WE.begin {P : Program} {n : Nat} {w0 : World} {m0 : List Res} {lp : Nat} {body : Code} {R : Ending → World → Prop} {r : Loop} (i : Nat) (hi : m[i]? = some (.obj lp (.loop r))) (hready : r.state = .ready)
    (h : WC ⟨some lp, P, n, [], w0, m0⟩ (roundPost P lp R) body l (m.set i (.obj lp (.loop { r with state := .busy })))) : WE ⟨some lp, P, n, [], w0, m0⟩ (Exit.then (RB P lp body R) Q) .normal l m := by
  unfold WE
  unfold WC at h
  intro a w hs
  exact ⟨_, run_beginRound (Mem.heapObj hs.2 hi) hready, h _ _ ⟨hs.1, Mem.putObj hs.2 hi⟩⟩

theorem WE.round_n {α : Type} {φ : α → Prop} {val : α → Value} {M : α → List Res} {lp : Nat} {r : Loop} (i : Nat) (x : α) (hi : m[i]? = some (.obj lp (.loop r))) (hv : val x = .bool true) (hφ : φ x)
    (hM : ∀ w, Mem C.w0 (m.set i (.obj lp (.loop { r with state := .ready, pending := none })) ++ C.m0) w → Mem C.w0 (M x ++ C.m0) w) : WE C (roundPost C.P lp (sp C.w0 C.m0 φ val M)) .normal l m := by
  unfold WE
  intro a w hs
  refine ⟨_, _, run_endRound none (Mem.heapObj hs.2 hi), x, hφ, by rw [hv]; rfl, hM _ (Mem.putObj hs.2 hi)⟩
theorem WE.round_r {α : Type} {φ : α → Prop} {val : α → Value} {M : α → List Res} {lp : Nat} {r : Loop} (i : Nat) (x : α) (hi : m[i]? = some (.obj lp (.loop r))) (hv : val x = .bool false) (hφ : φ x)
    (hM : ∀ w, Mem C.w0 (m.set i (.obj lp (.loop { r with state := .done, pending := some .ret })) ++ C.m0) w → Mem C.w0 (M x ++ C.m0) w) : WE C (roundPost C.P lp (sp C.w0 C.m0 φ val M)) .ret l m := by
  unfold WE
  intro a w hs
  refine ⟨_, _, run_endRound (some .ret) (Mem.heapObj hs.2 hi), x, hφ, by rw [hv]; rfl, hM _ (Mem.putObj hs.2 hi)⟩
theorem WE.round_x {α : Type} {φ : α → Prop} {val : α → Value} {M : α → List Res} {lp id : Nat} {r : Loop} (i : Nat) (x : α) (hi : m[i]? = some (.obj lp (.loop r))) (hv : val x = .bool false) (hφ : φ x)
    (hM : ∀ w, Mem C.w0 (m.set i (.obj lp (.loop { r with state := .done, pending := some (.exit id) })) ++ C.m0) w → Mem C.w0 (M x ++ C.m0) w) : WE C (roundPost C.P lp (sp C.w0 C.m0 φ val M)) (.exit id) l m := by
  unfold WE
  intro a w hs
  refine ⟨_, _, run_endRound (some (.exit id)) (Mem.heapObj hs.2 hi), x, hφ, by rw [hv]; rfl, hM _ (Mem.putObj hs.2 hi)⟩
end

/-- The mark of the block for the rounds' deferred calls. -/
abbrev dmark (dk : Nat) : Deferred := { target := .collected dk, args := #[] }

section
variable {P : Program} {n : Nat} {D : List Deferred} {w0 : World} {m0 : List Res} {Q : Po} {l : List (Nat × Value)} {m : List Res}
/-- A statement that may leave other deferred calls. -/
theorem c_sqD {r : Option Nat} {x y : Code} (h : ∀ K : Act → World → Prop, (∀ d l m, WC ⟨r, P, n, d, w0, m0⟩ Q y l m → CK ⟨r, P, n, d, w0, m0⟩ K l m) → WC ⟨r, P, n, D, w0, m0⟩ (Exit.then K Q) x l m) : WC ⟨r, P, n, D, w0, m0⟩ Q (.seq x y) l m := by
  unfold WC CK at h
  unfold WC
  exact fun a w hs => wpIn_seq (h (fun a w => y.wpIn (FW r) 0 P Q a w) (fun d l m h => h) a w hs)

/-- THE STATEMENT. -/
theorem WC.range {g : Operand} {ps : Array Tmp} {assign body : Code} {f : FuncId} {cs : List Value} (hg : opv l g = some (.func (.func f) #[] cs.toArray))
    (h : ∀ (dk lp : Nat) (r : Loop), r.state = .ready → r.pending = none → r.params = ps → r.assign = assign → r.body = body → Sl n [] l ⟨r.tmps, []⟩ →
      ∃ (α : Type) (φ : α → Prop) (val : α → Value) (M : α → List Res), Ct P f (.func (.yield lp) #[] #[] :: cs) w0 (.obj lp (.loop r) :: .obj dk (.deferred (some [])) :: m) m0 φ val M ∧
        ∀ x, φ x → ∃ (r' : Loop) (i : Nat), (M x)[i]? = some (.obj lp (.loop r')) ∧ r'.state ≠ .busy ∧ ∀ r'' : Loop,
          ((r'.pending = none ∧ WE ⟨none, P, n, dmark dk :: D, w0, m0⟩ Q .normal l ((M x).set i (.obj lp (.loop r'')))) ∨
           (r'.pending = some .ret ∧ WE ⟨none, P, n, dmark dk :: D, w0, m0⟩ Q .ret l ((M x).set i (.obj lp (.loop r'')))) ∨
           ∃ id, r'.pending = some (.exit id) ∧ WE ⟨none, P, n, dmark dk :: D, w0, m0⟩ Q (.exit id) l ((M x).set i (.obj lp (.loop r'')))))
    : WC ⟨none, P, n, D, w0, m0⟩ Q (.rangeFunc g ps assign body) l m := by
  unfold WC
  intro a w hs
  refine wpIn_rangeFunc (F := FW none) fun fn _ => ?_
  have hrec : ∃ r : Loop, r = { state := .ready, pending := none, fn, tmps := a.tmps, params := ps, assign, body, defers := w.heap.size } := ⟨_, rfl⟩
  obtain ⟨r, hr⟩ := hrec
  obtain ⟨α, φ, val, M, hct, hx⟩ := h w.heap.size (w.heap.size + 1) r (by rw [hr]) (by rw [hr]) (by rw [hr]) (by rw [hr]) (by rw [hr]) (by rw [hr]; exact ⟨rfl, hs.1.size, hs.1.at_⟩)
  unfold Ct at hct
  obtain ⟨hE, hct⟩ := hct
  have hev := hs.1.eval hg
  have hbnd : w0.heap.size ≤ w.heap.size := hs.2.bnd
  have hm1 : Mem w0 (.obj w.heap.size (.deferred (some [])) :: (m ++ m0)) (w.alloc (.deferred (some []))) :=
    hs.2.add (World.grownBy_alloc w _ none) ⟨hbnd, heap_alloc_new w _⟩ (fun k hk => by simp [Res.block] at hk; omega)
  have hm2 : Mem w0 (.obj (w.heap.size + 1) (.loop r) :: .obj w.heap.size (.deferred (some [])) :: (m ++ m0)) ((w.alloc (.deferred (some []))).alloc (.loop r)) := by
    have hsz : (w.alloc (.deferred (some []))).heap.size = w.heap.size + 1 := by simp
    refine hm1.add (World.grownBy_alloc _ _ none) ⟨by omega, ?_⟩ (fun k hk => by simp [Res.block] at hk; omega)
    rw [← hsz]
    exact heap_alloc_new _ _
  have hent : (Instr.enterLoop fn a.tmps ps assign body (FW none).round).run P w = .ok (w.heap.size + 1, [dmark w.heap.size]) ((w.alloc (.deferred (some []))).alloc (.loop r)) := by
    rw [hr]
    exact run_enterLoop_outer fn a.tmps ps assign body
  refine ⟨w.heap.size + 1, [dmark w.heap.size], _, { target := .fn (.func f) cs.toArray, args := #[.func (.yield (w.heap.size + 1)) #[] #[]] }, (w.alloc (.deferred (some []))).alloc (.loop r), f, (.func (.yield (w.heap.size + 1)) #[] #[] :: cs).toArray, (w.alloc (.deferred (some []))).alloc (.loop r), hent, ?_, fun _ _ => trivial, ?_, fun h => by simp [FW] at h, ?_⟩
  · simp only [rangeCall, resolve, hev, Deferred.ofValue]
    simp [Act.eval]
  · obtain ⟨fnn, hf, hnm, hb⟩ := hE
    have hn' : fnn.name ≠ "runtime.NumGoroutine" := by simpa using hnm
    have hb' : fnn.body ≠ none := by intro e; simp [e] at hb
    simp [Go.invoke, callFunc, hf, hn', hb']
  · have hc : CallsIn Fence.wide 0 P f (.func (.yield (w.heap.size + 1)) #[] #[] :: cs).toArray ((w.alloc (.deferred (some []))).alloc (.loop r)) (sp w0 m0 φ val M) := callsIn_wide.2 (hct _ hm2)
    refine CallsIn.mono (F := FW none) hc ?_
    rintro e w' ⟨x, hφ, rfl, hmem⟩
    obtain ⟨r', i, hi, hnb, hend⟩ := hx x hφ
    obtain ⟨W, R, hrun, hmem'⟩ : ∃ (W : World) (R : Loop), (Instr.endLoop (w.heap.size + 1)).run P w' = .ok r'.pending W ∧ Mem w0 ((M x).set i (.obj (w.heap.size + 1) (.loop R)) ++ m0) W :=
      ⟨_, _, run_endLoop (P := P) (Mem.heapObj hmem hi) hnb, Mem.putObj hmem hi⟩
    have hst : Sl n (dmark w.heap.size :: D) l { a with defers := [dmark w.heap.size] ++ a.defers } := ⟨by simp [hs.1.d], hs.1.size, hs.1.at_⟩
    refine ⟨_, _, hrun, ?_⟩
    rcases hend R with ⟨hp, hw⟩ | ⟨hp, hw⟩ | ⟨id, hp, hw⟩
    · rw [hp]
      unfold WE at hw
      exact hw _ _ ⟨hst, hmem'⟩
    · rw [hp]
      unfold WE at hw
      exact wpIn_ret (hw _ _ ⟨hst, hmem'⟩)
    · rw [hp]
      unfold WE at hw
      exact wpIn_exit (hw _ _ ⟨hst, hmem'⟩)
end

/-! ### A function that holds such a loop -/
section
variable {α : Type} {P : Program} {f : FuncId} {w0 : World} {m m0 : List Res} {φ : α → Prop} {val : α → Value} {M : α → List Res}
abbrev bpM (P : Program) (fn : Func) (R : Ending → World → Prop) : Po := bodyPostM Fence.wide 0 P fn R
theorem Ct.ofM {fn : Func} {c : Code} {args : List Value} (hf : P.funcs[f]? = some fn) (hb : fn.body = some c) (hname : (fn.name == "runtime.NumGoroutine") = false) (hn : Nat.ble args.length fn.ntmps = true)
    (h : WC ⟨none, P, fn.ntmps, [], w0, m0⟩ (bpM P fn (sp w0 m0 φ val M)) c (slotsOf 0 args) m) : Ct P f args w0 m m0 φ val M := by
  unfold Ct
  refine ⟨⟨fn, hf, hname, by rw [hb]; rfl⟩, fun w hw => ?_⟩
  have hn' : args.length ≤ fn.ntmps := by simpa using hn
  unfold WC at h
  refine callsIn_wide.1 (callsIn_of_wp_marks (n := 0) hf hb trivial (h _ w ⟨⟨rfl, ?_, ?_⟩, hw⟩))
  · simp; omega
  · intro s v hv
    obtain ⟨_, h2⟩ := lk_slotsOf args 0 s v hv
    have hlt := (List.getElem?_eq_some_iff.1 h2).1
    simp only [Nat.sub_zero] at h2 hlt
    rw [Array.getD_eq_getD_getElem?, Array.getElem?_append_left (by simpa using hlt)]
    simp [h2]
end

section
variable {α : Type} {C : Cx} {l : List (Nat × Value)} {m : List Res} {fn : Func} {φ : α → Prop} {val : α → Value} {M : α → List Res}
/-- Two results, in cells. -/
theorem results_cell2 {fn : Func} {a b t u : Nat} {tmps : Array Value} {P : Program} {w : World} {A B : Addr} {v1 v2 : Value} {d1 d2 : TypeDesc} (h : fn.results = #[.cell a t, .cell b u]) (ha : tmps.getD a undef = .pointer (some A)) (hb : tmps.getD b undef = .pointer (some B))
    (ht : P.underlying t = some d1) (h1 : oneTy d1 = true) (hu : P.underlying u = some d2) (h2 : oneTy d2 = true) (hc1 : w.cell? A = some v1) (hc2 : w.cell? B = some v2) : (results fn tmps).run P w = .ok (.tuple #[v1, v2]) w := by
  simp only [Array.getD_eq_getD_getElem?] at ha hb
  simp [results, h, ha, hb, asAddr, run_loadVar_one ht h1, run_loadVar_one hu h2, hc1, hc2]
theorem WE.retMc2 {p q : Nat} {t u : TypeId} {d1 d2 : TypeDesc} {b1 b2 : Nat} {e1 e2 : TypeId} {v1 v2 : Value} (x : α) (hres : fn.results = #[.cell p t, .cell q u]) (hD : C.D = []) (ht : C.P.underlying t = some d1) (h1 : oneTy d1 = true) (hu : C.P.underlying u = some d2) (h2 : oneTy d2 = true)
    (hp : lk p l = some (.pointer (some ⟨b1, 0, none⟩))) (hq : lk q l = some (.pointer (some ⟨b2, 0, none⟩))) (i j : Nat) (hi : m[i]? = some (.blk b1 [v1] e1)) (hj : m[j]? = some (.blk b2 [v2] e2)) (hv : val x = .tuple #[v1, v2]) (hφ : φ x) (hM : ∀ w, Mem C.w0 (m ++ C.m0) w → Mem C.w0 (M x ++ C.m0) w) :
    WE C (bpM C.P fn (sp C.w0 C.m0 φ val M)) .ret l m := by
  unfold WE
  intro a w hs
  have g1 := ((Mem.appL hs.2).all i _ hi).2
  have g2 := ((Mem.appL hs.2).all j _ hj).2
  show LeavesInM _ _ _ _ _ _ a.defers _ _
  rw [hs.1.d, hD]
  have c1 : w.cell? ⟨b1, 0, none⟩ = some v1 := by rw [cell_of_row w b1 0 _ e1 (0, 0) g1]; rfl
  have c2 : w.cell? ⟨b2, 0, none⟩ = some v2 := by rw [cell_of_row w b2 0 _ e2 (0, 0) g2]; rfl
  exact ⟨_, results_cell2 hres (hs.1.at_ p _ hp) (hs.1.at_ q _ hq) ht h1 hu h2 c1 c2, x, hφ, by rw [hv], hM w hs.2⟩
theorem WE.retM1c2 {p q : Nat} {t u : TypeId} {d1 d2 : TypeDesc} {b1 b2 dk : Nat} {e1 e2 : TypeId} {v1 v2 : Value} (x : α) (hres : fn.results = #[.cell p t, .cell q u]) (hD : C.D = [dmark dk]) (ht : C.P.underlying t = some d1) (h1 : oneTy d1 = true) (hu : C.P.underlying u = some d2) (h2 : oneTy d2 = true)
    (hp : lk p l = some (.pointer (some ⟨b1, 0, none⟩))) (hq : lk q l = some (.pointer (some ⟨b2, 0, none⟩))) (i j k : Nat) (hi : m[i]? = some (.blk b1 [v1] e1)) (hj : m[j]? = some (.blk b2 [v2] e2)) (hk : m[k]? = some (.obj dk (.deferred (some [])))) (hki : k ≠ i) (hkj : k ≠ j) (hv : val x = .tuple #[v1, v2]) (hφ : φ x) (hM : ∀ w, Mem C.w0 (m.set k (.obj dk (.deferred none)) ++ C.m0) w → Mem C.w0 (M x ++ C.m0) w) :
    WE C (bpM C.P fn (sp C.w0 C.m0 φ val M)) .ret l m := by
  unfold WE
  intro a w hs
  have hw' : Mem C.w0 (m.set k (.obj dk (.deferred none)) ++ C.m0) (w.putObj dk (.deferred none)) := Mem.putObj hs.2 hk
  have g1 : Res.at C.w0.heap.size _ (.blk b1 [v1] e1) := (Mem.appL hw').all i _ (by rw [List.getElem?_set_ne hki]; exact hi)
  have g2 : Res.at C.w0.heap.size _ (.blk b2 [v2] e2) := (Mem.appL hw').all j _ (by rw [List.getElem?_set_ne hkj]; exact hj)
  have g1 := g1.2
  have g2 := g2.2
  show LeavesInM _ _ _ _ _ _ a.defers _ _
  rw [hs.1.d, hD]
  refine ⟨by simp, .inl ⟨dk, _, rfl, run_takeDeferred (Mem.heapObj hs.2 hk), ?_⟩⟩
  have c1 : (w.putObj dk (.deferred none)).cell? ⟨b1, 0, none⟩ = some v1 := by rw [cell_of_row _ b1 0 _ e1 (0, 0) g1]; rfl
  have c2 : (w.putObj dk (.deferred none)).cell? ⟨b2, 0, none⟩ = some v2 := by rw [cell_of_row _ b2 0 _ e2 (0, 0) g2]; rfl
  exact ⟨_, results_cell2 hres (hs.1.at_ p _ hp) (hs.1.at_ q _ hq) ht h1 hu h2 c1 c2, x, hφ, by rw [hv], hM _ hw'⟩
end
attribute [irreducible] YCt
end Go.Gp

/- What a letter and a mark make: the contracts of fold.made, fold.runeAt, fold.pair. -/
namespace Go.Proofs.YthnabbidlmihbaaGreatDoor
open Go.RowKit Go.Gp

/-- What a letter makes with the marks, in turn. -/
def madeL (c : Int) : List Int :=
  if c = 97 then [224, 225, 226, 227, 228, 229, 0] else if c = 99 then [0, 0, 0, 0, 0, 0, 231] else if c = 101 then [232, 233, 234, 0, 235, 0, 0]
  else if c = 105 then [236, 237, 238, 0, 239, 0, 0] else if c = 110 then [0, 0, 0, 241, 0, 0, 0] else if c = 111 then [242, 243, 244, 245, 246, 0, 0]
  else if c = 117 then [249, 250, 251, 0, 252, 0, 0] else if c = 121 then [0, 253, 0, 0, 255, 0, 0] else [0, 0, 0, 0, 0, 0, 0]
theorem madeL_length (c : Int) : (madeL c).length = 7 := by unfold madeL; repeat' split <;> try rfl
theorem zero7 (w : World) : (zeroValue 130).run Tryz.prog w = .ok (.agg (runes [0, 0, 0, 0, 0, 0, 0]).toArray) w := by kernel_rfl

set_option maxRecDepth 100000 in
theorem made_spec (c : Int) (w0 : World) (m0 : List Res) : PureC Tryz.prog 94 [.int .i32 c] w0 m0 (.agg (runes (madeL c)).toArray) := by
  refine Ct.of Tryz.func94 rfl (by kernel_rfl) rfl ?_
  refine c_sq fun _ h => c_rg (r_al zero7 (cs := runes [0, 0, 0, 0, 0, 0, 0]) rfl rfl fun b => r_nx h ?_)
  (refine c_sq fun k7 h7 => c_sq fun k9 h9 => c_rg <| r_mv rfl rfl <| r_nx h9 <| c_bl <| c_sq fun k11 h11 => c_rg <| r_eqC rfl rfl rfl (fun _ => ?_) (fun _ => ?_); refine r_as rfl rfl <| r_nx h11 <| c_cT rfl <| c_sq fun k14 h14 => c_rg <| r_bd rfl (fun _ => by kernel_rfl) rfl <| r_sa 0 (by kernel_rfl) rfl rfl rfl rfl rfl rfl rfl <| r_nx h14 <| c_rt <| WE.blk_r <| WE.then_r ?_; rotate_left; refine r_as rfl rfl <| r_nx h11 <| c_cF rfl <| c_sq fun k14 h14 => c_rg <| r_eqC rfl rfl rfl (fun _ => ?_) (fun _ => ?_); refine r_as rfl rfl <| r_nx h14 <| c_cT rfl <| c_sq fun k17 h17 => c_rg ?_; rotate_left; refine r_as rfl rfl <| r_nx h14 <| c_cF rfl <| c_sq fun k17 h17 => c_rg <| r_eqC rfl rfl rfl (fun _ => ?_) (fun _ => ?_); refine r_as rfl rfl <| r_nx h17 <| c_cT rfl <| c_sq fun k20 h20 => c_rg ?_; rotate_left; refine r_as rfl rfl <| r_nx h17 <| c_cF rfl <| c_sq fun k20 h20 => c_rg <| r_eqC rfl rfl rfl (fun _ => ?_) (fun _ => ?_); refine r_as rfl rfl <| r_nx h20 <| c_cT rfl <| c_sq fun k23 h23 => c_rg ?_; rotate_left; refine r_as rfl rfl <| r_nx h20 <| c_cF rfl <| c_sq fun k23 h23 => c_rg <| r_eqC rfl rfl rfl (fun _ => ?_) (fun _ => ?_); refine r_as rfl rfl <| r_nx h23 <| c_cT rfl <| c_sq fun k26 h26 => c_rg ?_; rotate_left; refine r_as rfl rfl <| r_nx h23 <| c_cF rfl <| c_sq fun k26 h26 => c_rg <| r_eqC rfl rfl rfl (fun _ => ?_) (fun _ => ?_); refine r_as rfl rfl <| r_nx h26 <| c_cT rfl <| c_sq fun k29 h29 => c_rg ?_; rotate_left; refine r_as rfl rfl <| r_nx h26 <| c_cF rfl <| c_sq fun k29 h29 => c_rg <| r_eqC rfl rfl rfl (fun _ => ?_) (fun _ => ?_); refine r_as rfl rfl <| r_nx h29 <| c_cT rfl <| c_sq fun k32 h32 => c_rg ?_; rotate_left; refine r_as rfl rfl <| r_nx h29 <| c_cF rfl <| c_sq fun k32 h32 => c_rg <| r_eqC rfl rfl rfl (fun _ => ?_) (fun _ => ?_); refine r_as rfl rfl <| r_nx h32 <| c_cT rfl <| c_sq fun k35 h35 => c_rg ?_; rotate_left; refine r_as rfl rfl <| r_nx h32 <| c_cF rfl <| c_sk <| WE.blk_n <| WE.then_n h7 <| c_sq fun k35 h35 => c_rg ?_; rotate_left)
  · have e : madeL c = [224, 225, 226, 227, 228, 229, 0] := by unfold madeL; rw [if_pos (by assumption)]
    exact WE.retc (i := 0) (cs := runes [224, 225, 226, 227, 228, 229, 0]) () rfl rfl Tryz.underlying130 rfl (by kernel_rfl) rfl rfl (by rw [e]) trivial Mem.drop
  · have e : madeL c = [0, 0, 0, 0, 0, 0, 231] := by unfold madeL; rw [if_neg (by assumption)]; rw [if_pos (by assumption)]
    refine r_bu (v := .agg (runes [0, 0, 0, 0, 0, 0, 231]).toArray) rfl (fun _ => by kernel_rfl) rfl ?_
    refine r_sa 0 (us := runes [0, 0, 0, 0, 0, 0, 231]) (by kernel_rfl) rfl rfl rfl rfl rfl rfl rfl ?_
    (refine r_nx h17 <| c_rt <| WE.blk_r <| WE.then_r ?_; rotate_left)
    exact WE.retc (i := 0) (cs := runes [0, 0, 0, 0, 0, 0, 231]) () rfl rfl Tryz.underlying130 rfl (by kernel_rfl) rfl rfl (by rw [e]) trivial Mem.drop
  · have e : madeL c = [232, 233, 234, 0, 235, 0, 0] := by unfold madeL; rw [if_neg (by assumption)]; rw [if_neg (by assumption)]; rw [if_pos (by assumption)]
    refine r_bu (v := .agg (runes [232, 233, 234, 0, 235, 0, 0]).toArray) rfl (fun _ => by kernel_rfl) rfl ?_
    refine r_sa 0 (us := runes [232, 233, 234, 0, 235, 0, 0]) (by kernel_rfl) rfl rfl rfl rfl rfl rfl rfl ?_
    (refine r_nx h20 <| c_rt <| WE.blk_r <| WE.then_r ?_; rotate_left)
    exact WE.retc (i := 0) (cs := runes [232, 233, 234, 0, 235, 0, 0]) () rfl rfl Tryz.underlying130 rfl (by kernel_rfl) rfl rfl (by rw [e]) trivial Mem.drop
  · have e : madeL c = [236, 237, 238, 0, 239, 0, 0] := by unfold madeL; rw [if_neg (by assumption)]; rw [if_neg (by assumption)]; rw [if_neg (by assumption)]; rw [if_pos (by assumption)]
    refine r_bu (v := .agg (runes [236, 237, 238, 0, 239, 0, 0]).toArray) rfl (fun _ => by kernel_rfl) rfl ?_
    refine r_sa 0 (us := runes [236, 237, 238, 0, 239, 0, 0]) (by kernel_rfl) rfl rfl rfl rfl rfl rfl rfl ?_
    (refine r_nx h23 <| c_rt <| WE.blk_r <| WE.then_r ?_; rotate_left)
    exact WE.retc (i := 0) (cs := runes [236, 237, 238, 0, 239, 0, 0]) () rfl rfl Tryz.underlying130 rfl (by kernel_rfl) rfl rfl (by rw [e]) trivial Mem.drop
  · have e : madeL c = [0, 0, 0, 241, 0, 0, 0] := by unfold madeL; rw [if_neg (by assumption)]; rw [if_neg (by assumption)]; rw [if_neg (by assumption)]; rw [if_neg (by assumption)]; rw [if_pos (by assumption)]
    refine r_bu (v := .agg (runes [0, 0, 0, 241, 0, 0, 0]).toArray) rfl (fun _ => by kernel_rfl) rfl ?_
    refine r_sa 0 (us := runes [0, 0, 0, 241, 0, 0, 0]) (by kernel_rfl) rfl rfl rfl rfl rfl rfl rfl ?_
    (refine r_nx h26 <| c_rt <| WE.blk_r <| WE.then_r ?_; rotate_left)
    exact WE.retc (i := 0) (cs := runes [0, 0, 0, 241, 0, 0, 0]) () rfl rfl Tryz.underlying130 rfl (by kernel_rfl) rfl rfl (by rw [e]) trivial Mem.drop
  · have e : madeL c = [242, 243, 244, 245, 246, 0, 0] := by unfold madeL; rw [if_neg (by assumption)]; rw [if_neg (by assumption)]; rw [if_neg (by assumption)]; rw [if_neg (by assumption)]; rw [if_neg (by assumption)]; rw [if_pos (by assumption)]
    refine r_bu (v := .agg (runes [242, 243, 244, 245, 246, 0, 0]).toArray) rfl (fun _ => by kernel_rfl) rfl ?_
    refine r_sa 0 (us := runes [242, 243, 244, 245, 246, 0, 0]) (by kernel_rfl) rfl rfl rfl rfl rfl rfl rfl ?_
    (refine r_nx h29 <| c_rt <| WE.blk_r <| WE.then_r ?_; rotate_left)
    exact WE.retc (i := 0) (cs := runes [242, 243, 244, 245, 246, 0, 0]) () rfl rfl Tryz.underlying130 rfl (by kernel_rfl) rfl rfl (by rw [e]) trivial Mem.drop
  · have e : madeL c = [249, 250, 251, 0, 252, 0, 0] := by unfold madeL; rw [if_neg (by assumption)]; rw [if_neg (by assumption)]; rw [if_neg (by assumption)]; rw [if_neg (by assumption)]; rw [if_neg (by assumption)]; rw [if_neg (by assumption)]; rw [if_pos (by assumption)]
    refine r_bu (v := .agg (runes [249, 250, 251, 0, 252, 0, 0]).toArray) rfl (fun _ => by kernel_rfl) rfl ?_
    refine r_sa 0 (us := runes [249, 250, 251, 0, 252, 0, 0]) (by kernel_rfl) rfl rfl rfl rfl rfl rfl rfl ?_
    (refine r_nx h32 <| c_rt <| WE.blk_r <| WE.then_r ?_; rotate_left)
    exact WE.retc (i := 0) (cs := runes [249, 250, 251, 0, 252, 0, 0]) () rfl rfl Tryz.underlying130 rfl (by kernel_rfl) rfl rfl (by rw [e]) trivial Mem.drop
  · have e : madeL c = [0, 253, 0, 0, 255, 0, 0] := by unfold madeL; rw [if_neg (by assumption)]; rw [if_neg (by assumption)]; rw [if_neg (by assumption)]; rw [if_neg (by assumption)]; rw [if_neg (by assumption)]; rw [if_neg (by assumption)]; rw [if_neg (by assumption)]; rw [if_pos (by assumption)]
    refine r_bu (v := .agg (runes [0, 253, 0, 0, 255, 0, 0]).toArray) rfl (fun _ => by kernel_rfl) rfl ?_
    refine r_sa 0 (us := runes [0, 253, 0, 0, 255, 0, 0]) (by kernel_rfl) rfl rfl rfl rfl rfl rfl rfl ?_
    (refine r_nx h35 <| c_rt <| WE.blk_r <| WE.then_r ?_; rotate_left)
    exact WE.retc (i := 0) (cs := runes [0, 253, 0, 0, 255, 0, 0]) () rfl rfl Tryz.underlying130 rfl (by kernel_rfl) rfl rfl (by rw [e]) trivial Mem.drop
  · have e : madeL c = [0, 0, 0, 0, 0, 0, 0] := by unfold madeL; rw [if_neg (by assumption)]; rw [if_neg (by assumption)]; rw [if_neg (by assumption)]; rw [if_neg (by assumption)]; rw [if_neg (by assumption)]; rw [if_neg (by assumption)]; rw [if_neg (by assumption)]; rw [if_neg (by assumption)]
    refine r_bu (v := .agg (runes [0, 0, 0, 0, 0, 0, 0]).toArray) rfl (fun _ => by kernel_rfl) rfl ?_
    refine r_sa 0 (us := runes [0, 0, 0, 0, 0, 0, 0]) (by kernel_rfl) rfl rfl rfl rfl rfl rfl rfl ?_
    (refine r_nx h35 <| c_rt ?_; rotate_left)
    exact WE.retc (i := 0) (cs := runes [0, 0, 0, 0, 0, 0, 0]) () rfl rfl Tryz.underlying130 rfl (by kernel_rfl) rfl rfl (by rw [e]) trivial Mem.drop

def marksB : ByteArray := ⟨#[204, 128, 204, 129, 204, 130, 204, 131, 204, 136, 204, 138, 204, 167]⟩
def markN : List Nat := [768, 769, 770, 771, 776, 778, 807]
/-- Where a mark stands among all of them, two bytes each; -1: it is none. -/
def markAt (r : Int) : Int := if r = 768 then 0 else if r = 769 then 2 else if r = 770 then 4 else if r = 771 then 6 else if r = 776 then 8 else if r = 778 then 10 else if r = 807 then 12 else -1
theorem decode_marks (i : Nat) (h : i < 7) : Utf8.decode marksB (2 * i) = (markN.getD i 0, 2) := by
  have h' : i = 0 ∨ i = 1 ∨ i = 2 ∨ i = 3 ∨ i = 4 ∨ i = 5 ∨ i = 6 := by omega
  rcases h' with rfl | rfl | rfl | rfl | rfl | rfl | rfl <;> decide +kernel
theorem markAt_at {r : Int} {i : Nat} (h : i < 7) (e : ((markN.getD i 0 : Nat) : Int) = r) : markAt r = 2 * (i : Int) := by
  have h' : i = 0 ∨ i = 1 ∨ i = 2 ∨ i = 3 ∨ i = 4 ∨ i = 5 ∨ i = 6 := by omega
  rcases h' with rfl | rfl | rfl | rfl | rfl | rfl | rfl <;> (simp [markN] at e; subst e; decide)
theorem markAt_no {r : Int} (h : ∀ j, j < 7 → ((markN.getD j 0 : Nat) : Int) ≠ r) : markAt r = -1 := by
  have h0 := h 0 (by omega); have h1 := h 1 (by omega); have h2 := h 2 (by omega); have h3 := h 3 (by omega); have h4 := h 4 (by omega); have h5 := h 5 (by omega); have h6 := h 6 (by omega)
  simp [markN] at h0 h1 h2 h3 h4 h5 h6
  unfold markAt
  rw [if_neg (by omega), if_neg (by omega), if_neg (by omega), if_neg (by omega), if_neg (by omega), if_neg (by omega), if_neg (by omega)]
theorem markAt_bd (r : Int) : -1 ≤ markAt r ∧ markAt r ≤ 12 ∧ (0 ≤ markAt r → 768 ≤ r) ∧ (markAt r = -1 ∨ 0 ≤ markAt r) := by
  unfold markAt; repeat' split <;> omega

theorem runeAt_spec (r : Int) (w0 : World) (m0 : List Res) : PureC Tryz.prog 93 [.string marksB, .int .i32 r] w0 m0 (.int .i64 (markAt r)) := by
  refine Ct.of Tryz.func93 rfl (by kernel_rfl) rfl ?_
  (refine c_sq fun k4 h4 => c_rg <| r_as rfl rfl <| r_nx h4 <| c_sq fun k6 h6 => c_sq fun k8 h8 => c_rg <| r_mv rfl rfl <| r_rg Tryz.underlying9 rfl rfl (fun _ => ?_); refine r_nx h8 <| c_bl ?_; rotate_left)
  rename_i b
  refine WC.loop (α := Nat) (fun _ => [(1, .int .i32 r), (8, .pointer (some ⟨b, 0, none⟩))]) (fun i => [.obj b (.stringIter marksB (2 * i))]) (fun i => i ≤ 7 ∧ ∀ j, j < i → ((markN.getD j 0 : Nat) : Int) ≠ r) (fun i => 7 - i) 0 ⟨by omega, by omega⟩ ⟨rfl, rfl, trivial⟩ Mem.keep ?_
  rintro i ⟨hi, hb⟩
  by_cases hlt : i < 7
  · (refine c_sq fun k15 h15 => c_rg ?_; rotate_left)
    refine r_nT 0 (show 2 * i < 14 by omega) (decode_marks i hlt) rfl rfl rfl rfl ?_
    by_cases he : ((markN.getD i 0 : Nat) : Int) = r
    · (refine r_ex rfl rfl rfl <| r_nx h15 <| c_sq fun k18 h18 => c_cT rfl <| c_sk <| WE.then_n h18 <| c_bl <| c_sq fun k20 h20 => c_rg <| r_ex rfl rfl rfl <| r_ex rfl rfl rfl <| r_as rfl rfl <| r_as rfl rfl <| r_nx h20 <| c_sq fun k22 h22 => c_rg <| r_mv rfl rfl <| r_mv rfl rfl <| r_eqT rfl rfl rfl (by omega) <| r_nx h22 <| c_cT rfl <| c_sq fun k24 h24 => c_rg <| r_mv rfl rfl <| r_as rfl rfl <| r_nx h24 <| c_rt <| WE.blk_r <| WE.then_r <| WE.blk_r <| WE.then_r ?_; rotate_left)
      exact WE.ret1 () rfl rfl (by rw [markAt_at hlt he]; rfl) trivial Mem.drop
    · (refine r_ex rfl rfl rfl <| r_nx h15 <| c_sq fun k18 h18 => c_cT rfl <| c_sk <| WE.then_n h18 <| c_bl <| c_sq fun k20 h20 => c_rg <| r_ex rfl rfl rfl <| r_ex rfl rfl rfl <| r_as rfl rfl <| r_as rfl rfl <| r_nx h20 <| c_sq fun k22 h22 => c_rg <| r_mv rfl rfl <| r_mv rfl rfl <| r_eqF rfl rfl rfl (by omega) <| r_nx h22 <| c_cF rfl <| c_sk <| WE.blk_n ?_; rotate_left)
      exact WE.back (i + 1) ⟨by omega, fun j hj => by rcases Nat.lt_succ_iff_lt_or_eq.1 hj with h | rfl; exact hb j h; exact he⟩ (by omega) ⟨rfl, rfl, trivial⟩ Mem.keep
  · have h7 : i = 7 := by omega
    (refine c_sq fun k16 h16 => c_rg ?_; rotate_left)
    refine r_nF 0 (show ¬ 2 * i < 14 by omega) rfl rfl rfl ?_
    (refine r_ex rfl rfl rfl <| r_nx h16 <| c_sq fun k18 h18 => c_cF rfl <| c_ex <| WE.then_x <| WE.then_x <| WE.blk_x <| WE.then_n h6 <| c_sq fun k20 h20 => c_rg <| r_as rfl rfl <| r_nx h20 <| c_rt ?_; rotate_left)
    exact WE.ret1 () rfl rfl (by rw [markAt_no (fun j hj => hb j (by omega))]; rfl) trivial Mem.drop

theorem index7 (l : List Int) (hl : l.length = 7) (i : Nat) (h : i < 7) (w : World) : (Instr.index 130 (.agg (runes l).toArray) (.int .i64 i)).run Tryz.prog w = .ok (.int .i32 (l.getD i 0)) w := by
  match l, hl with
  | [a0, a1, a2, a3, a4, a5, a6], _ =>
    have h' : i = 0 ∨ i = 1 ∨ i = 2 ∨ i = 3 ∨ i = 4 ∨ i = 5 ∨ i = 6 := by omega
    rcases h' with rfl | rfl | rfl | rfl | rfl | rfl | rfl
    all_goals (show _ = _; kernel_rfl)

/-- What a letter and a mark make, or 0. -/
def pairR (c mark : Int) : Int := if markAt mark < 0 then 0 else (madeL c).getD (markAt mark / 2).toNat 0
theorem pair_spec (c r : Int) (w0 : World) (m0 : List Res) : PureC Tryz.prog 84 [.int .i32 c, .int .i32 r] w0 m0 (.int .i32 (pairR c r)) := by
  have hbd := markAt_bd r
  refine Ct.of Tryz.func84 rfl (by kernel_rfl) rfl ?_
  (refine c_sq fun k6 h6 => c_rg <| r_as rfl rfl <| r_nx h6 <| c_sq fun k8 h8 => c_rg <| r_mv rfl rfl ?_; rotate_left)
  refine WX.pure rfl rfl (runeAt_spec r _ _) rfl rfl ?_
  by_cases h0 : markAt r < 0
  · (refine r_as rfl rfl <| r_nx h8 <| c_sq fun k11 h11 => c_sq fun k13 h13 => c_rg <| r_mv rfl rfl <| r_ltC rfl rfl rfl (fun _ => ?_) (fun _ => ?_); refine r_mv rfl rfl <| r_sk rfl rfl <| r_sk rfl rfl <| r_pT rfl rfl rfl <| r_nx h13 <| c_cT rfl <| c_sq fun k16 h16 => c_rg <| r_as rfl rfl <| r_nx h16 <| c_rt <| WE.then_r ?_; rotate_left; refine r_mv rfl rfl <| r_mv rfl rfl <| r_ltT rfl rfl rfl (by omega) <| r_pF rfl rfl rfl <| r_nx h13 <| c_cT rfl <| c_sq fun k16 h16 => c_rg <| r_as rfl rfl <| r_nx h16 <| c_rt <| WE.then_r ?_; rotate_left)
    all_goals exact WE.ret1 () rfl rfl (by rw [pairR, if_pos h0]; rfl) trivial Mem.drop
  · (refine r_as rfl rfl <| r_nx h8 <| c_sq fun k11 h11 => c_sq fun k13 h13 => c_rg <| r_mv rfl rfl <| r_ltF rfl rfl rfl (by omega) <| r_mv rfl rfl <| r_mv rfl rfl <| r_ltF rfl rfl rfl (by omega) <| r_pF rfl rfl rfl <| r_nx h13 <| c_cF rfl <| c_sk <| WE.then_n h11 <| c_sq fun k15 h15 => c_rg <| r_mv rfl rfl ?_; rotate_left)
    refine WX.pure rfl rfl (made_spec c _ _) rfl rfl ?_
    obtain ⟨i, hi⟩ : ∃ i : Nat, markAt r / 2 = i := ⟨(markAt r / 2).toNat, by omega⟩
    (refine r_mv rfl rfl <| r_qu rfl rfl rfl (by omega) (wquo64 (by omega)) ?_; rotate_left)
    refine r_ix rfl rfl (by rw [hi]; exact index7 (madeL c) (madeL_length c) i (by omega)) rfl ?_
    (refine r_as rfl rfl <| r_nx h15 <| c_rt ?_; rotate_left)
    exact WE.ret1 () rfl rfl (by rw [pairR, if_neg h0, hi]; rfl) trivial Mem.drop
end Go.Proofs.YthnabbidlmihbaaGreatDoor

/- Letters and marks put together: the contracts of fold.Compose and its closure. -/
namespace Go.Proofs.YthnabbidlmihbaaGreatDoor
open Go.RowKit Go.Gp

/-- One more code point behind what is there. -/
def addR (xs : List Int) (c : Int) : List Int := if 0 < xs.length ∧ pairR (xs.getD (xs.length - 1) 0) c ≠ 0 then xs.set (xs.length - 1) (pairR (xs.getD (xs.length - 1) 0) c) else xs ++ [c]
def compR (l : List Int) : List Int := l.foldl addR []
theorem addR_length (xs : List Int) (c : Int) : (addR xs c).length ≤ xs.length + 1 := by unfold addR; split <;> simp
theorem addR_some (xs : List Int) (c : Int) : 0 < (addR xs c).length := by
  unfold addR
  split
  · rename_i h; simpa using h.1
  · simp
abbrev OutB (g : Nat) (p : Option Addr × Nat) (xs : List Int) : Res := .blk g [SlR p xs] 22

set_option maxRecDepth 100000 in
theorem add_spec (c : Int) (g : Nat) (p : Option Addr × Nat) (xs : List Int) (hn : xs.length ≤ 1000000000000) (w0 : World) (m0 : List Res) :
    Ct (α := Option Addr × Nat) Tryz.prog 83 [.int .i32 c, .pointer (some ⟨g, 0, none⟩)] w0 [OutB g p xs, OwnR p xs] m0 (fun _ => True) (fun _ => .tuple #[]) (fun p => [OutB g p (addR xs c), OwnR p (addR xs c)]) := by
  refine Ct.of Tryz.func83 rfl (by kernel_rfl) rfl ?_
  by_cases h0 : 0 < xs.length
  · obtain ⟨j, hj⟩ : ∃ j : Nat, xs.length = j + 1 := ⟨xs.length - 1, by omega⟩
    have hj' : (xs.length : Int) - 1 = (j : Int) := by omega
    (refine c_sq fun k12 h12 => c_sq fun k14 h14 => c_rg <| r_lb 0 Tryz.underlying22 rfl rfl rfl rfl rfl <| r_ls Tryz.underlying22 rfl rfl <| r_su rfl rfl rfl (wsub64 (by omega)) <| r_as rfl rfl <| r_nx h14 <| c_sq fun k16 h16 => c_rg <| r_mv rfl rfl <| r_geT rfl rfl rfl (by omega) <| r_nx h16 <| c_cT rfl <| c_sq fun k18 h18 => c_rg <| r_lb 0 Tryz.underlying22 rfl rfl rfl rfl rfl <| r_mv rfl rfl <| r_im (Rd.own 1 rfl) Tryz.underlying22 (by kernel_rfl) rfl rfl rfl rfl (by omega) (by omega) ?_; rotate_left)
    rw [hj']
    refine r_li j (Rd.own 1 rfl) Tryz.underlying21 rfl rfl rfl (by omega) ?_
    (refine r_mv rfl rfl ?_; rotate_left)
    refine WX.pure rfl rfl (pair_spec (xs.getD j 0) c _ _) rfl rfl ?_
    by_cases hx : pairR (xs.getD j 0) c = 0
    · have e : addR xs c = xs ++ [c] := by unfold addR; rw [if_neg (by rw [hj]; simp only [Nat.add_sub_cancel]; exact fun h => h.2 hx)]
      rw [hx]
      (refine r_as rfl rfl <| r_nx h18 <| c_sq fun k22 h22 => c_rg <| r_mv rfl rfl <| r_neF rfl rfl rfl (by omega) <| r_nx h22 <| c_cF rfl <| c_sk <| WE.then_n h12 <| c_rg <| r_lb 0 Tryz.underlying22 rfl rfl rfl rfl rfl <| r_mv rfl rfl <| r_bo Tryz.underlying22 rfl (fun _ => by kernel_rfl) rfl rfl rfl (fun _ => ?_); rotate_left)
      rename_i b
      refine r_am (ys := [c]) 2 (z := .int .i32 0) (by_ := 4) (f := (.int .i32 ·)) Tryz.underlying22 (by kernel_rfl) rfl rfl rfl rfl (Rd.own 0 rfl) rfl (fun _ => rfl) (by omega) rfl (fun q _ => ?_)
      (refine r_st 1 (by kernel_rfl) rfl rfl rfl rfl rfl rfl rfl <| r_nl ?_; rotate_left)
      exact WE.end0 q rfl rfl rfl trivial (by rw [e]; exact Mem.pick [1, 2] (by decide) rfl)
    · have e : addR xs c = xs.set j (pairR (xs.getD j 0) c) := by unfold addR; rw [if_pos (by rw [hj]; simp only [Nat.add_sub_cancel]; exact ⟨by omega, hx⟩), hj, Nat.add_sub_cancel]
      (refine r_as rfl rfl <| r_nx h18 <| c_sq fun k22 h22 => c_rg <| r_mv rfl rfl <| r_neT rfl rfl rfl (by omega) <| r_nx h22 <| c_cT rfl <| c_sq fun k24 h24 => c_rg <| r_lb 0 Tryz.underlying22 rfl rfl rfl rfl rfl <| r_mv rfl rfl <| r_mv rfl rfl <| r_im (Rd.own 1 rfl) Tryz.underlying22 (by kernel_rfl) rfl rfl rfl rfl (by omega) (by omega) ?_; rotate_left)
      refine r_so 1 j (by kernel_rfl) rfl rfl rfl rfl (by omega) rfl rfl ?_
      (refine r_nx h24 <| c_rt <| WE.then_r ?_; rotate_left)
      refine WE.ret0 p rfl rfl rfl trivial (fun w hw => ?_)
      rw [e]
      show Mem _ ([.blk g [.slice p.1 (xs.set j (pairR (xs.getD j 0) c)).length p.2] _, .own p.1 p.2 (xs.set j (pairR (xs.getD j 0) c)).length (runes (xs.set j (pairR (xs.getD j 0) c))) _ 1] ++ _) w
      rw [List.length_set, runes, List.map_set]
      exact hw
  · have hnil : xs = [] := List.eq_nil_of_length_eq_zero (by omega)
    subst hnil
    (refine c_sq fun k10 h10 => c_sq fun k12 h12 => c_rg <| r_lb 0 Tryz.underlying22 rfl rfl rfl rfl rfl <| r_ls Tryz.underlying22 rfl rfl <| r_su rfl rfl rfl (wsub64 (by omega)) <| r_as rfl rfl <| r_nx h12 <| c_sq fun k14 h14 => c_rg <| r_mv rfl rfl <| r_geF rfl rfl rfl (by omega) <| r_nx h14 <| c_cF rfl <| c_sk <| WE.then_n h10 <| c_rg <| r_lb 0 Tryz.underlying22 rfl rfl rfl rfl rfl <| r_mv rfl rfl <| r_bo Tryz.underlying22 rfl (fun _ => by kernel_rfl) rfl rfl rfl (fun _ => ?_); rotate_left)
    refine r_am (ys := [c]) 2 (z := .int .i32 0) (by_ := 4) (f := (.int .i32 ·)) Tryz.underlying22 (by kernel_rfl) rfl rfl rfl rfl (Rd.own 0 rfl) rfl (fun _ => rfl) (by simp) rfl (fun q _ => ?_)
    (refine r_st 1 (by kernel_rfl) rfl rfl rfl rfl rfl rfl rfl <| r_nl ?_; rotate_left)
    exact WE.end0 q rfl rfl rfl trivial (Mem.pick [1, 2] (by decide) rfl)

theorem compR_snoc (l : List Int) (c : Int) : compR (l ++ [c]) = addR (compR l) c := by simp [compR]
theorem foldl_addR_length (l : List Int) : ∀ acc : List Int, (l.foldl addR acc).length ≤ acc.length + l.length := by
  induction l with
  | nil => intro acc; simp
  | cons c l ih =>
    intro acc
    have h1 := ih (addR acc c)
    have h2 := addR_length acc c
    simp only [List.foldl_cons, List.length_cons]
    omega
theorem compR_length (l : List Int) : (compR l).length ≤ l.length := by
  have := foldl_addR_length l []
  simpa [compR] using this
theorem take_next {l : List Int} {i : Nat} (h : i < l.length) : l.take (i + 1) = l.take i ++ [l.getD i 0] := by
  rw [List.take_succ_eq_append_getElem h]
  simp [h]
set_option maxRecDepth 100000 in
theorem compose_spec (A : Option Addr) (c : Nat) (l : List Int) (hn : l.length ≤ 1000000000000) (w0 : World) (m0 : List Res) (hA : Rd w0 m0 A (runes l)) :
    Ct (α := Option Addr × Nat) Tryz.prog 62 [.slice A l.length c] w0 [] m0 (fun _ => True) (fun p => SlR p (compR l)) (fun p => [OwnR p (compR l)]) := by
  refine Ct.of Tryz.func62 rfl (by kernel_rfl) rfl ?_
  (refine c_sq fun k8 h8 => c_rg <| r_as rfl rfl <| r_nx h8 <| c_sq fun k10 h10 => c_rg <| r_al (z := .slice none 0 0) (cs := [.slice none 0 0]) (fun _ => by kernel_rfl) rfl rfl (fun _ => ?_); refine r_nx h10 <| c_sq fun k13 h13 => c_rg <| r_fn rfl rfl <| r_as rfl rfl <| r_nx h13 <| c_sq fun k15 h15 => c_sq fun k17 h17 => c_rg <| r_mv rfl rfl <| r_ls Tryz.underlying22 rfl rfl <| r_mv rfl rfl <| r_nx h17 <| c_bl ?_; rotate_left)
  rename_i g
  refine WC.loop (α := Nat × (Option Addr × Nat)) (fun x => [(8, .slice A l.length c), (9, .int .i64 l.length), (10, .int .i64 x.1), (4, .func (.func 83) #[] #[.pointer (some ⟨g, 0, none⟩)]), (3, .pointer (some ⟨g, 0, none⟩))])
    (fun x => [OutB g x.2 (compR (l.take x.1)), OwnR x.2 (compR (l.take x.1))]) (fun x => x.1 ≤ l.length) (fun x => l.length - x.1) (0, (none, 0)) (by simp) ⟨rfl, rfl, rfl, rfl, rfl, trivial⟩ (fun w hw => Mem.pick [1, 0] (by decide) rfl w (Mem.addNil _ _ w hw)) ?_
  rintro ⟨i, p⟩ hi
  dsimp only at hi ⊢
  by_cases hlt : i < l.length
  · (refine c_sq fun k23 h23 => c_rg <| r_ltT rfl rfl rfl (by omega) <| r_nx h23 <| c_sq fun k25 h25 => c_cT rfl <| c_sk <| WE.then_n h25 <| c_sq fun k27 h27 => c_bl <| c_sq fun k29 h29 => c_rg <| r_im (hA.app _) Tryz.underlying22 (by kernel_rfl) rfl rfl rfl rfl (by omega) (by omega) <| r_li (i) (hA.app _) Tryz.underlying21 rfl rfl rfl (by omega) <| r_as rfl rfl <| r_nx h29 <| c_rg <| r_mv rfl rfl <| r_mv rfl rfl ?_; rotate_left)
    have hc := compR_length (l.take i)
    have hc' : (l.take i).length ≤ i := List.length_take_le _ _
    refine WX.call (m1 := [OutB g p (compR (l.take i)), OwnR p (compR (l.take i))]) (m2 := []) rfl rfl rfl (add_spec (l.getD i 0) g p (compR (l.take i)) (by omega) _ _) rfl rfl (fun q _ => ?_)
    rw [← compR_snoc, ← take_next hlt]
    (refine r_nl <| WE.blk_n <| WE.then_n h27 <| c_rg <| r_ad rfl rfl rfl (wadd64 (by omega)) <| r_mv rfl rfl <| r_nl ?_; rotate_left)
    exact WE.back (i + 1, q) (by dsimp only; omega) (by dsimp only; omega) ⟨rfl, rfl, rfl, rfl, rfl, trivial⟩ Mem.keep
  · have e : l.take i = l := List.take_of_length_le (by omega)
    rw [e]
    (refine c_sq fun k24 h24 => c_rg <| r_ltF rfl rfl rfl (by omega) <| r_nx h24 <| c_sq fun k26 h26 => c_cF rfl <| c_ex <| WE.then_x <| WE.then_x <| WE.blk_x <| WE.then_n h15 <| c_sq fun k28 h28 => c_rg <| r_lb 0 Tryz.underlying22 rfl rfl rfl rfl rfl <| r_as rfl rfl <| r_nx h28 <| c_rt ?_; rotate_left)
    exact WE.ret1 p rfl rfl rfl trivial (Mem.pick [1] (by decide) rfl)
end Go.Proofs.YthnabbidlmihbaaGreatDoor

/- slices.Index, label.parts: the walks. -/
namespace Go.Proofs.YthnabbidlmihbaaGreatDoor
open Go.RowKit Go.Gp

/-- The first place of v, or -1. -/
def idxP (v : Int) (l : List Int) : Int := findFrom (fun c => decide (v = c)) l
set_option maxRecDepth 100000 in
theorem index_spec (A : Option Addr) (c : Nat) (l : List Int) (v : Int) (hn : l.length ≤ 9000000000000000000) (w0 : World) (m0 : List Res) (hA : Rd w0 m0 A (runes l)) :
    PureC Tryz.prog 64 [.slice A l.length c, .int .i32 v] w0 m0 (.int .i64 (idxP v l)) := by
  refine Ct.of Tryz.func64 rfl (by kernel_rfl) rfl ?_
  (refine c_sq fun k9 h9 => c_rg <| r_as rfl rfl <| r_nx h9 <| c_sq fun k11 h11 => c_sq fun k13 h13 => c_rg <| r_mv rfl rfl <| r_ls Tryz.underlying22 rfl rfl <| r_mv rfl rfl <| r_nx h13 <| c_bl ?_; rotate_left)
  refine WC.loop (α := Nat) (fun i => [(0, .slice A l.length c), (1, .int .i32 v), (7, .int .i64 l.length), (8, .int .i64 i)]) (fun _ => []) (fun i => i ≤ l.length ∧ ∀ j, j < i → ¬ v = l.getD j 0) (fun i => l.length - i) 0 ⟨by omega, by omega⟩ ⟨rfl, rfl, rfl, rfl, trivial⟩ Mem.keep ?_
  rintro i ⟨hi, hb⟩
  by_cases hlt : i < l.length
  · by_cases ht : v = l.getD i 0
    · (refine c_sq fun k20 h20 => c_rg <| r_ltT rfl rfl rfl (by omega) <| r_nx h20 <| c_sq fun k22 h22 => c_cT rfl <| c_sk <| WE.then_n h22 <| c_sq fun k24 h24 => c_bl <| c_sq fun k26 h26 => c_rg <| r_mv rfl rfl <| r_as rfl rfl <| r_nx h26 <| c_sq fun k28 h28 => c_rg <| r_mv rfl rfl <| r_mv rfl rfl <| r_mv rfl rfl <| r_im (hA.app _) Tryz.underlying22 (by kernel_rfl) rfl rfl rfl rfl (by omega) (by omega) <| r_li (i) (hA.app _) Tryz.underlying21 rfl rfl rfl (by omega) <| r_eqT rfl rfl rfl (by omega) <| r_nx h28 <| c_cT rfl <| c_sq fun k30 h30 => c_rg <| r_mv rfl rfl <| r_as rfl rfl <| r_nx h30 <| c_rt <| WE.blk_r <| WE.then_r <| WE.then_r <| WE.blk_r <| WE.then_r ?_; rotate_left)
      exact WE.ret1 () rfl rfl (by
        have : l.findIdx? (fun c => decide (v = c)) = some i := by
          rw [List.findIdx?_eq_some_iff_getElem]
          refine ⟨hlt, decide_eq_true (by have := ht; simp [hlt] at this; exact this), fun j hj => ?_⟩
          have := hb j hj
          have hj' : j < l.length := by omega
          simp [hj'] at this
          simp [this]
        unfold idxP findFrom
        rw [this]
        rfl) trivial Mem.drop
    · (refine c_sq fun k20 h20 => c_rg <| r_ltT rfl rfl rfl (by omega) <| r_nx h20 <| c_sq fun k22 h22 => c_cT rfl <| c_sk <| WE.then_n h22 <| c_sq fun k24 h24 => c_bl <| c_sq fun k26 h26 => c_rg <| r_mv rfl rfl <| r_as rfl rfl <| r_nx h26 <| c_sq fun k28 h28 => c_rg <| r_mv rfl rfl <| r_mv rfl rfl <| r_mv rfl rfl <| r_im (hA.app _) Tryz.underlying22 (by kernel_rfl) rfl rfl rfl rfl (by omega) (by omega) <| r_li (i) (hA.app _) Tryz.underlying21 rfl rfl rfl (by omega) <| r_eqF rfl rfl rfl (by omega) <| r_nx h28 <| c_cF rfl <| c_sk <| WE.blk_n <| WE.then_n h24 <| c_rg <| r_ad rfl rfl rfl (wadd64 (by omega)) <| r_mv rfl rfl <| r_nl ?_; rotate_left)
      exact WE.back (i + 1) ⟨by omega, fun j hj => by
        rcases Nat.lt_succ_iff_lt_or_eq.1 hj with h | h
        · exact hb j h
        · rw [h]; exact ht⟩ (by omega) ⟨rfl, rfl, rfl, rfl, trivial⟩ Mem.keep
  · (refine c_sq fun k19 h19 => c_rg <| r_ltF rfl rfl rfl (by omega) <| r_nx h19 <| c_sq fun k21 h21 => c_cF rfl <| c_ex <| WE.then_x <| WE.then_x <| WE.blk_x <| WE.then_n h11 <| c_sq fun k23 h23 => c_rg <| r_as rfl rfl <| r_nx h23 <| c_rt ?_; rotate_left)
    exact WE.ret1 () rfl rfl (by
      have : l.findIdx? (fun c => decide (v = c)) = none := by
        rw [List.findIdx?_eq_none_iff]
        intro x hx
        obtain ⟨j, hj, rfl⟩ := List.mem_iff_getElem.1 hx
        have := hb j (by omega)
        simp [hj] at this
        simp [this]
      unfold idxP findFrom
      rw [this]
      rfl) trivial Mem.drop
/-- label.parts: what it closes over lies in a new block. -/
theorem parts_spec (A : Option Addr) (n c : Nat) (w0 : World) (m0 : List Res) :
    Ct (α := Nat) Tryz.prog 30 [.slice A n c] w0 [] m0 (fun _ => True) (fun b => .func (.func 63) #[] #[.pointer (some ⟨b, 0, none⟩)]) (fun b => [.blk b [.slice A n c] 22]) := by
  refine Ct.of Tryz.func30 rfl (by kernel_rfl) rfl ?_
  (refine c_sq fun k6 h6 => c_rg <| r_bx rfl rfl rfl (fun _ => ?_); refine r_as rfl rfl <| r_nx h6 <| c_sq fun k9 h9 => c_rg <| r_fn rfl rfl <| r_as rfl rfl <| r_nx h9 <| c_rt ?_; rotate_left)
  exact WE.ret1 _ rfl rfl rfl trivial Mem.keep
end Go.Proofs.YthnabbidlmihbaaGreatDoor

/- A list cut at a number, in plain Lean; readable slices cut; memory in another order; errors that may be read. -/
set_option linter.unusedVariables false
namespace Go.Proofs.YthnabbidlmihbaaGreatDoor
open Go.RowKit Go.Gp

/-- A list cut at every v. -/
def splitP (v : Int) : List Int → List (List Int)
  | [] => [[]]
  | x :: r => if v = x then [] :: splitP v r else match splitP v r with | [] => [[x]] | p :: ps => (x :: p) :: ps
theorem splitP_ne (v : Int) (l : List Int) : splitP v l ≠ [] := by
  cases l with
  | nil => simp [splitP]
  | cons x r =>
    rw [splitP]
    split
    · simp
    · split <;> simp
theorem idxP_cons (v x : Int) (r : List Int) : idxP v (x :: r) = if v = x then 0 else if idxP v r < 0 then -1 else idxP v r + 1 := by
  unfold idxP findFrom
  rw [List.findIdx?_cons]
  by_cases h : v = x
  · simp [h]
  · simp only [h, decide_false, Bool.false_eq_true, if_false]
    cases hr : r.findIdx? (fun c => decide (v = c)) with
    | none => simp
    | some i =>
      simp only [Option.map_some]
      rw [if_neg (by omega)]
      simp
theorem splitP_no (v : Int) : ∀ l : List Int, idxP v l < 0 → splitP v l = [l]
  | [], _ => rfl
  | x :: r, h => by
    rw [idxP_cons] at h
    split at h
    · omega
    · rename_i hx
      split at h
      · rename_i hr
        rw [splitP, if_neg hx, splitP_no v r hr]
      · omega
theorem splitP_at (v : Int) : ∀ l : List Int, 0 ≤ idxP v l → (idxP v l).toNat < l.length ∧ splitP v l = l.take (idxP v l).toNat :: splitP v (l.drop ((idxP v l).toNat + 1))
  | [], h => by simp [idxP, findFrom] at h
  | x :: r, h => by
    rw [idxP_cons] at h ⊢
    by_cases hx : v = x
    · simp only [hx, if_true]
      refine ⟨by simp, ?_⟩
      rw [splitP, if_pos rfl]
      rfl
    · rw [if_neg hx] at h ⊢
      by_cases hr : idxP v r < 0
      · rw [if_pos hr] at h
        omega
      · rw [if_neg hr] at h ⊢
        obtain ⟨h1, h2⟩ := splitP_at v r (by omega)
        have e : (idxP v r + 1).toNat = (idxP v r).toNat + 1 := by omega
        rw [e]
        refine ⟨by rw [List.length_cons]; omega, ?_⟩
        rw [splitP, if_neg hx, h2]
        rfl
theorem idxP_bd (v : Int) (l : List Int) : -1 ≤ idxP v l ∧ idxP v l < l.length := by
  unfold idxP findFrom
  cases hr : l.findIdx? (fun c => decide (v = c)) with
  | none => simp only; omega
  | some i =>
    have := (List.findIdx?_eq_some_iff_getElem.1 hr).1
    simp only
    omega
theorem splitP_len (v : Int) (l : List Int) : (splitP v l).length ≤ l.length + 1 ∧ ∀ p ∈ splitP v l, p.length ≤ l.length ∧ ∀ x ∈ p, x ∈ l := by
  induction l with
  | nil => simp [splitP]
  | cons x r ih =>
    obtain ⟨h1, h2⟩ := ih
    rw [splitP]
    split
    · refine ⟨by simp; omega, fun p hp => ?_⟩
      rcases List.mem_cons.1 hp with hp | hp
      · subst hp; simp
      · have := h2 p hp
        exact ⟨by simp; omega, fun y hy => List.mem_cons_of_mem _ (this.2 y hy)⟩
    · split
      · rename_i hs
        exact absurd hs (splitP_ne v r)
      · rename_i p ps hs
        rw [hs] at h1 h2
        refine ⟨by simp at h1 ⊢; omega, fun q hq => ?_⟩
        rcases List.mem_cons.1 hq with hq | hq
        · subst hq
          have := h2 p (by simp)
          refine ⟨by simp; omega, fun y hy => ?_⟩
          rcases List.mem_cons.1 hy with hy | hy
          · simp [hy]
          · exact List.mem_cons_of_mem _ (this.2 y hy)
        · have := h2 q (by simp [hq])
          exact ⟨by simp; omega, fun y hy => List.mem_cons_of_mem _ (this.2 y hy)⟩

/-- A part of a slice that can be read. -/
def subA (A : Option Addr) (lo c : Nat) : Option Addr := if c = lo then A else A.map (·.add (lo * 1))
theorem sliced_sub (A : Option Addr) (lo hi c : Nat) : sliced A lo hi c 1 = .slice (subA A lo c) (hi - lo) (c - lo) := rfl
theorem _root_.Go.Gp.Rd.sub {w0 : World} {m : List Res} {A : Option Addr} {xs : List Value} (h : Rd w0 m A xs) (lo k c : Nat) (hc : xs.length ≤ c) : Rd w0 m (subA A lo c) ((xs.drop lo).take k) := by
  unfold Rd at h ⊢
  intro w hw j v hj
  have hjk : j < k := by
    have := (List.getElem?_eq_some_iff.1 hj).1
    simp at this
    omega
  have h2 : xs[lo + j]? = some v := by
    rw [List.getElem?_take_of_lt hjk, List.getElem?_drop] at hj
    exact hj
  obtain ⟨a, ha, hcell⟩ := h w hw (lo + j) v h2
  have hlt := (List.getElem?_eq_some_iff.1 h2).1
  unfold subA
  rw [if_neg (by omega)]
  exact ⟨a.add (lo * 1), by rw [ha]; rfl, by rw [Addr.add_add, Nat.mul_one]; exact hcell⟩
theorem _root_.Go.Gp.Rd.mono {w0 : World} {m m' : List Res} {A : Option Addr} {xs : List Value} (h : Rd w0 m' A xs) (hM : ∀ w, Mem w0 m w → Mem w0 m' w) : Rd w0 m A xs := by
  unfold Rd at h ⊢
  exact fun w hw => h w (hM w hw)
theorem EcR.mono {w0 : World} {m m' : List Res} {n : Int} (hM : ∀ w, Mem w0 m w → Mem w0 m' w) : ∀ {L : List (Nat × ByteArray)}, EcR w0 m' L n → EcR w0 m L n
  | [], _ => trivial
  | (_, _) :: _, h => ⟨Rd.mono h.1 hM, EcR.mono hM h.2⟩
theorem EcR.own {w0 : World} {m : List Res} {n : Int} : ∀ L : List (Nat × ByteArray), EcR w0 (ecm L n ++ m) L n
  | [] => trivial
  | (_, _) :: r => ⟨Rd.blk 0 rfl, EcR.mono (fun _ hw => Mem.tail hw) (EcR.own r)⟩

/-- Memory in another order. -/
theorem apart_symm {r s : Res} (h : r.apart s) : s.apart r := fun g h1 h2 => h g h2 h1
theorem _root_.Go.Gp.Mem.perm {w0 w : World} {m m' : List Res} (h : Mem w0 m w) (p : m.Perm m') : Mem w0 m' w := by
  have pw : m.Pairwise Res.apart := by
    rw [List.pairwise_iff_getElem]
    intro i j hi hj hij
    exact h.apart i j _ _ (by omega) (List.getElem?_eq_getElem hi) (List.getElem?_eq_getElem hj)
  have pw' := (p.pairwise_iff (fun h => apart_symm h)).1 pw
  have all : ∀ r ∈ m, r.at w0.heap.size w := fun r hr => by
    obtain ⟨i, hi, e⟩ := List.mem_iff_getElem.1 hr
    exact h.all i r (by rw [← e]; exact List.getElem?_eq_getElem hi)
  rw [List.pairwise_iff_getElem] at pw'
  refine ⟨h.below, fun i r hi => ?_, fun i j r s hij hi hj => ?_⟩
  · obtain ⟨hlt, e⟩ := List.getElem?_eq_some_iff.1 hi
    exact all r (p.symm.subset (by rw [← e]; exact List.getElem_mem hlt))
  · obtain ⟨hlt, e⟩ := List.getElem?_eq_some_iff.1 hi
    obtain ⟨hlt', e'⟩ := List.getElem?_eq_some_iff.1 hj
    subst e e'
    rcases Nat.lt_or_gt_of_ne hij with hh | hh
    · exact pw' i j hlt hlt' hh
    · exact apart_symm (pw' j i hlt' hlt hh)
/-- The first one last. -/
theorem _root_.Go.Gp.Mem.rot {w0 : World} {r : Res} {J m0 : List Res} : ∀ w, Mem w0 ((r :: J) ++ m0) w → Mem w0 ((J ++ [r]) ++ m0) w := fun w h =>
  h.perm (List.Perm.append_right m0 (List.perm_append_singleton r J).symm)
theorem _root_.Go.Gp.Mem.unrot {w0 : World} {r : Res} {J m0 : List Res} : ∀ w, Mem w0 ((J ++ [r]) ++ m0) w → Mem w0 ((r :: J) ++ m0) w := fun w h =>
  h.perm (List.Perm.append_right m0 (List.perm_append_singleton r J))
/-- A slice of the call's own is no longer than its room. -/
theorem _root_.Go.Gp.WX.room {C : Cx} {Q : Po} {l : List (Nat × Value)} {m : List Res} {ops : Array Oper} {rest : List Oper} (i : Nat) {A : Option Addr} {c n : Nat} {xs : List Value} {e : TypeId} (hi : m[i]? = some (.own A c n xs e 1)) (h : n ≤ c → WX false C Q ops rest l m) : WX false C Q ops rest l m := by
  unfold WX WL at h ⊢
  intro a w hs
  refine h ?_ a w hs
  have hlt : i < m.length := (List.getElem?_eq_some_iff.1 hi).1
  have hi' : (m ++ C.m0)[i]? = some (.own A c n xs e 1) := by rw [List.getElem?_append_left hlt]; exact hi
  have hown : w.ownsRow C.w0.heap.size e 1 (.slice A n c) n xs := hs.2.all i _ hi'
  rcases hown.2 with ⟨_, h0⟩ | ⟨gg, cap, cur, hv, hb, hg, hnc, hcm, hcs, htake⟩
  · omega
  · injection hv with h1 h2 h3
    omega
end Go.Proofs.YthnabbidlmihbaaGreatDoor

/- The document's Punycode read: numbers by digits, a list with a code point put in, a text: the walks; and the equality with the program's. -/
set_option linter.unusedVariables false
namespace Go.Proofs.YthnabbidlmihbaaGreatDoor
open Go.RowKit Go.Gp

set_option maxRecDepth 100000 in
theorem rweighted_spec (s : ByteArray) (at_ : Nat) (i0 bias : Int) (hs : s.size ≤ 65536) (hat : at_ ≤ s.size) (hi0 : 0 ≤ i0 ∧ i0 ≤ 1099511627776) (hb : 0 ≤ bias ∧ bias ≤ 1000) (w0 : World) (m0 : List Res) :
    PureC Tryz.prog 76 [.string s, .int .i64 at_, .int .i64 i0, .int .i64 bias] w0 m0
      (.tuple #[.int .i64 (readL bias (s.data.toList.drop at_) 0 i0 1).1, .int .i64 (if (readL bias (s.data.toList.drop at_) 0 i0 1).2 = 0 then 0 else at_ + (readL bias (s.data.toList.drop at_) 0 i0 1).2)]) := by
  obtain ⟨R, hR⟩ : ∃ R, R = readL bias (s.data.toList.drop at_) 0 i0 1 := ⟨_, rfl⟩
  rw [← hR]
  refine Ct.of Tryz.func76 rfl (by kernel_rfl) rfl ?_
  (refine c_sq fun k13 h13 => c_rg <| r_as rfl rfl <| r_as rfl rfl <| r_nx h13 <| c_sq fun k15 h15 => c_rg <| r_as rfl rfl <| r_nx h15 <| c_sq fun k17 h17 => c_rg <| r_as rfl rfl <| r_nx h17 <| c_sq fun k19 h19 => c_bl ?_; rotate_left)
  refine WC.loop (α := Nat × Int × Int) (fun x => [(0, .string s), (1, .int .i64 ((at_ + x.1 : Nat) : Int)), (2, .int .i64 x.2.1), (3, .int .i64 bias), (10, .int .i64 x.2.2), (11, .int .i64 (((x.1 : Int) + 1) * 36))]) (fun _ => [])
    (fun x => at_ + x.1 ≤ s.size ∧ readL bias (s.data.toList.drop (at_ + x.1)) x.1 x.2.1 x.2.2 = R ∧ (0 ≤ x.2.1 ∧ x.2.1 ≤ 1099511627776) ∧ (1 ≤ x.2.2 ∧ x.2.2 ≤ 1099511627776)) (fun x => s.size - x.1) (0, i0, 1) ⟨hat, hR.symm, by dsimp only; omega, by dsimp only; omega⟩ ⟨rfl, rfl, rfl, rfl, rfl, rfl, trivial⟩ Mem.keep ?_
  rintro ⟨a, i, w⟩ ⟨ha, e, h1, h2⟩
  dsimp only at ha e h1 h2 ⊢
  by_cases hlt : at_ + a < s.size
  · have hlt' : at_ + a < s.data.toList.length := by simpa using hlt
    have hd : s.data.toList.drop (at_ + a) = s.data.toList.getD (at_ + a) 0 :: s.data.toList.drop (at_ + a + 1) := by
      rw [List.drop_eq_getElem_cons hlt', List.getD_eq_getElem?_getD, List.getElem?_eq_getElem hlt']
      rfl
    rw [hd, readL] at e
    have hbt := byte_at s hlt
    generalize s.data.toList.getD (at_ + a) 0 = c at e hbt
    have ht := thrP_bd (((a : Int) + 1) * 36) bias
    have hv := valD_bd (lowB c)
    have hval := fun mm => rvalue_spec c w0 mm
    generalize valD (lowB c) = d at e hv hval
    have m1 : d * w ≤ 35 * w := Int.mul_le_mul_of_nonneg_right hv.2 (by omega)
    have m2 : -1 * w ≤ d * w := Int.mul_le_mul_of_nonneg_right hv.1 (by omega)
    have m3 : w * (36 - thrP (((a : Int) + 1) * 36) bias) ≤ w * 35 := Int.mul_le_mul_of_nonneg_left (by omega) (by omega)
    have m4 : w * 10 ≤ w * (36 - thrP (((a : Int) + 1) * 36) bias) := Int.mul_le_mul_of_nonneg_left (by omega) (by omega)
    (refine c_sq fun k45 h45 => c_sq fun k47 h47 => c_rg <| r_mv rfl rfl <| r_mv rfl rfl <| r_lS Tryz.underlying9 rfl rfl <| r_ltT rfl rfl rfl (by omega) <| r_nx h47 <| c_cT rfl <| c_sk <| WE.then_n h45 <| c_bl <| c_sq fun k49 h49 => c_rg <| r_mv rfl rfl <| r_mv rfl rfl ?_; rotate_left)
    refine r_iS (v := c) Tryz.underlying9 rfl rfl rfl (by omega) (by rw [show ((at_ + a : Nat) : Int).toNat = at_ + a by omega]; exact hbt) ?_
    refine WX.pure rfl rfl (hval _) rfl rfl ?_
    by_cases v1 : d < 0
    · rw [if_pos (.inl v1)] at e
      (refine r_as rfl rfl <| r_nx h49 <| c_sq fun k53 h53 => c_rg <| r_mv rfl rfl <| r_ad rfl rfl rfl (wadd64 (by omega)) <| r_as rfl rfl <| r_nx h53 <| c_sq fun k55 h55 => c_sq fun k57 h57 => c_rg <| r_mv rfl rfl <| r_ltT rfl rfl rfl (by omega) <| r_nx h57 <| c_cT rfl <| c_sq fun k59 h59 => c_rg <| r_as rfl rfl <| r_as rfl rfl <| r_nx h59 <| c_rt <| WE.then_r <| WE.blk_r <| WE.then_r <| WE.blk_r <| WE.then_r ?_; rotate_left)
      exact WE.ret2 () rfl rfl rfl rfl (by rw [← e]; rfl) trivial Mem.drop
    · by_cases v2 : 1099511627776 < i + d * w
      · rw [if_pos (.inr v2)] at e
        (refine r_as rfl rfl <| r_nx h49 <| c_sq fun k54 h54 => c_rg <| r_mv rfl rfl <| r_ad rfl rfl rfl (wadd64 (by omega)) <| r_as rfl rfl <| r_nx h54 <| c_sq fun k56 h56 => c_sq fun k58 h58 => c_rg <| r_mv rfl rfl <| r_ltF rfl rfl rfl (by omega) <| r_nx h58 <| c_cF rfl <| c_sk <| WE.then_n h56 <| c_sq fun k60 h60 => c_rg <| r_mv rfl rfl <| r_mv rfl rfl <| r_mv rfl rfl <| r_mu rfl rfl rfl (wmul64 (by omega)) <| r_ad rfl rfl rfl (wadd64 (by omega)) <| r_as rfl rfl <| r_nx h60 <| c_sq fun k62 h62 => c_sq fun k64 h64 => c_rg <| r_mv rfl rfl <| r_gtT rfl rfl rfl (by omega) <| r_nx h64 <| c_cT rfl <| c_sq fun k66 h66 => c_rg <| r_as rfl rfl <| r_as rfl rfl <| r_nx h66 <| c_rt <| WE.then_r <| WE.blk_r <| WE.then_r <| WE.blk_r <| WE.then_r ?_; rotate_left)
        exact WE.ret2 () rfl rfl rfl rfl (by rw [← e]; rfl) trivial Mem.drop
      · rw [if_neg (by omega)] at e
        (refine r_as rfl rfl <| r_nx h49 <| c_sq fun k54 h54 => c_rg <| r_mv rfl rfl <| r_ad rfl rfl rfl (wadd64 (by omega)) <| r_as rfl rfl <| r_nx h54 <| c_sq fun k56 h56 => c_sq fun k58 h58 => c_rg <| r_mv rfl rfl <| r_ltF rfl rfl rfl (by omega) <| r_nx h58 <| c_cF rfl <| c_sk <| WE.then_n h56 <| c_sq fun k60 h60 => c_rg <| r_mv rfl rfl <| r_mv rfl rfl <| r_mv rfl rfl <| r_mu rfl rfl rfl (wmul64 (by omega)) <| r_ad rfl rfl rfl (wadd64 (by omega)) <| r_as rfl rfl <| r_nx h60 <| c_sq fun k62 h62 => c_sq fun k64 h64 => c_rg <| r_mv rfl rfl <| r_gtF rfl rfl rfl (by omega) <| r_nx h64 <| c_cF rfl <| c_sk <| WE.then_n h62 <| c_sq fun k66 h66 => c_rg <| r_mv rfl rfl <| r_mv rfl rfl ?_; rotate_left)
        refine WX.pure rfl rfl (rthr_spec (((a : Int) + 1) * 36) bias (by omega) _ _) rfl rfl ?_
        by_cases v3 : d < thrP (((a : Int) + 1) * 36) bias
        · rw [if_pos v3] at e
          (refine r_as rfl rfl <| r_nx h66 <| c_sq fun k70 h70 => c_sq fun k72 h72 => c_rg <| r_mv rfl rfl <| r_mv rfl rfl <| r_ltT rfl rfl rfl (by omega) <| r_nx h72 <| c_cT rfl <| c_sq fun k74 h74 => c_rg <| r_mv rfl rfl <| r_mv rfl rfl <| r_as rfl rfl <| r_as rfl rfl <| r_nx h74 <| c_rt <| WE.then_r <| WE.blk_r <| WE.then_r <| WE.blk_r <| WE.then_r ?_; rotate_left)
          exact WE.ret2 () rfl rfl rfl rfl (by rw [← e, if_neg (by dsimp only; omega)]; exact congrArg (fun z => Value.tuple #[.int .i64 (i + d * w), .int .i64 z]) (by dsimp only; omega)) trivial Mem.drop
        · rw [if_neg v3] at e
          have m5 : 0 ≤ d * w := Int.mul_nonneg (by omega) (by omega)
          by_cases v4 : 1099511627776 < w * (36 - thrP (((a : Int) + 1) * 36) bias)
          · rw [if_pos v4] at e
            (refine r_as rfl rfl <| r_nx h66 <| c_sq fun k73 h73 => c_sq fun k75 h75 => c_rg <| r_mv rfl rfl <| r_mv rfl rfl <| r_ltF rfl rfl rfl (by omega) <| r_nx h75 <| c_cF rfl <| c_sk <| WE.then_n h73 <| c_sq fun k77 h77 => c_rg <| r_mv rfl rfl <| r_mv rfl rfl <| r_su rfl rfl rfl (wsub64 (by omega)) <| r_mu rfl rfl rfl (wmul64 (by omega)) <| r_as rfl rfl <| r_nx h77 <| c_sq fun k79 h79 => c_sq fun k81 h81 => c_rg <| r_mv rfl rfl <| r_gtT rfl rfl rfl (by omega) <| r_nx h81 <| c_cT rfl <| c_sq fun k83 h83 => c_rg <| r_as rfl rfl <| r_as rfl rfl <| r_nx h83 <| c_rt <| WE.then_r <| WE.blk_r <| WE.then_r <| WE.blk_r <| WE.then_r ?_; rotate_left)
            exact WE.ret2 () rfl rfl rfl rfl (by rw [← e]; rfl) trivial Mem.drop
          · rw [if_neg v4] at e
            (refine r_as rfl rfl <| r_nx h66 <| c_sq fun k73 h73 => c_sq fun k75 h75 => c_rg <| r_mv rfl rfl <| r_mv rfl rfl <| r_ltF rfl rfl rfl (by omega) <| r_nx h75 <| c_cF rfl <| c_sk <| WE.then_n h73 <| c_sq fun k77 h77 => c_rg <| r_mv rfl rfl <| r_mv rfl rfl <| r_su rfl rfl rfl (wsub64 (by omega)) <| r_mu rfl rfl rfl (wmul64 (by omega)) <| r_as rfl rfl <| r_nx h77 <| c_sq fun k79 h79 => c_sq fun k81 h81 => c_rg <| r_mv rfl rfl <| r_gtF rfl rfl rfl (by omega) <| r_nx h81 <| c_cF rfl <| c_sk <| WE.then_n h79 <| c_rg <| r_mv rfl rfl <| r_ad rfl rfl rfl (wadd64 (by omega)) <| r_as rfl rfl <| r_nl <| WE.blk_n ?_; rotate_left)
            exact WE.back (a + 1, i + d * w, w * (36 - thrP (((a : Int) + 1) * 36) bias)) ⟨by dsimp only; omega, e, by dsimp only; omega, by dsimp only; omega⟩ (by dsimp only; omega)
              ⟨rfl, congrArg (fun z => some (Value.int .i64 z)) (by dsimp only; omega), rfl, rfl, rfl, congrArg (fun z => some (Value.int .i64 z)) (by dsimp only; omega), trivial⟩ Mem.keep
  · (refine c_sq fun k29 h29 => c_sq fun k31 h31 => c_rg <| r_mv rfl rfl <| r_mv rfl rfl <| r_lS Tryz.underlying9 rfl rfl <| r_ltF rfl rfl rfl (by omega) <| r_nx h31 <| c_cF rfl <| c_ex <| WE.then_x <| WE.then_x <| WE.blk_x <| WE.then_n h19 <| c_sq fun k33 h33 => c_rg <| r_as rfl rfl <| r_as rfl rfl <| r_nx h33 <| c_rt ?_; rotate_left)
    have hsz : s.data.size ≤ at_ + a := by show s.size ≤ at_ + a; omega
    have e0 : s.data.toList.drop (at_ + a) = [] := List.drop_eq_nil_of_le (by simpa using hsz)
    rw [e0, readL] at e
    exact WE.ret2 () rfl rfl rfl rfl (by rw [← e]; rfl) trivial Mem.drop

/-- A number read onto another. -/
theorem readL_shift (bias i0 : Int) (h0 : 0 ≤ i0) (hb : 0 ≤ bias ∧ bias ≤ 1000) : ∀ (r : List UInt8) (a : Nat) (i w : Int), 0 ≤ i → 1 ≤ w →
    readL bias r a (i0 + i) w = if (readL bias r a i w).2 = 0 ∨ 1099511627776 < i0 + (readL bias r a i w).1 then (0, 0) else (i0 + (readL bias r a i w).1, (readL bias r a i w).2)
  | [], a, i, w, _, _ => by simp [readL]
  | c :: r, a, i, w, hi, hw => by
    have ht := thrP_bd (((a : Int) + 1) * 36) bias
    have eL : readL bias (c :: r) a (i0 + i) w = _ := readL.eq_2 bias a (i0 + i) w c r
    have eR : readL bias (c :: r) a i w = _ := readL.eq_2 bias a i w c r
    have ih := readL_shift bias i0 h0 hb r (a + 1) (i + valD (lowB c) * w) (w * (36 - thrP (((a : Int) + 1) * 36) bias))
    have hge := readL_ge bias r (a + 1) (i + valD (lowB c) * w) (w * (36 - thrP (((a : Int) + 1) * 36) bias))
    generalize valD (lowB c) = d at eL eR ih hge
    generalize thrP (((a : Int) + 1) * 36) bias = T at eL eR ih hge ht
    by_cases v1 : d < 0
    · rw [if_pos (.inl v1)] at eL eR
      rw [eL, eR]
      rfl
    · have m5 : 0 ≤ d * w := Int.mul_nonneg (by omega) (by omega)
      have m4 : w * 10 ≤ w * (36 - T) := Int.mul_le_mul_of_nonneg_left (by omega) (by omega)
      by_cases v2 : 1099511627776 < i + d * w
      · rw [if_pos (.inr (by omega))] at eL
        rw [if_pos (.inr v2)] at eR
        rw [eL, eR]
        rfl
      · rw [if_neg (by omega)] at eR
        by_cases v5 : 1099511627776 < i0 + i + d * w
        · rw [if_pos (.inr v5)] at eL
          by_cases v3 : d < T
          · rw [if_pos v3] at eR
            rw [eL, eR, if_pos (.inr (by dsimp only; omega))]
          · rw [if_neg v3] at eR
            by_cases v4 : 1099511627776 < w * (36 - T)
            · rw [if_pos v4] at eR
              rw [eL, eR]
              rfl
            · rw [if_neg v4] at eR
              rw [eL, eR, if_pos]
              rcases hge (by omega) with h | h
              · exact .inl h
              · exact .inr (by omega)
        · rw [if_neg (by omega)] at eL
          by_cases v3 : d < T
          · rw [if_pos v3] at eR eL
            rw [eL, eR, if_neg (by dsimp only; omega), Int.add_assoc]
          · rw [if_neg v3] at eR eL
            by_cases v4 : 1099511627776 < w * (36 - T)
            · rw [if_pos v4] at eR eL
              rw [eL, eR]
              rfl
            · rw [if_neg v4] at eR eL
              rw [eL, eR, Int.add_assoc, ih (by omega) (by omega)]
where
  readL_ge (bias : Int) : ∀ (r : List UInt8) (a : Nat) (i w : Int), 1 ≤ w → (readL bias r a i w).2 = 0 ∨ i ≤ (readL bias r a i w).1
    | [], a, i, w, _ => by simp [readL]
    | c :: r, a, i, w, hw => by
      have ht := thrP_bd (((a : Int) + 1) * 36) bias
      rw [readL]
      generalize valD (lowB c) = d
      by_cases v1 : d < 0
      · rw [if_pos (.inl v1)]; simp
      · have m5 : 0 ≤ d * w := Int.mul_nonneg (by omega) (by omega)
        have m4 : w * 10 ≤ w * (36 - thrP (((a : Int) + 1) * 36) bias) := Int.mul_le_mul_of_nonneg_left (by omega) (by omega)
        split
        · simp
        · split
          · right; dsimp only; omega
          · split
            · simp
            · rcases readL_ge bias r (a + 1) (i + d * w) (w * (36 - thrP (((a : Int) + 1) * 36) bias)) (by omega) with h | h
              · exact .inl h
              · right; omega
set_option maxRecDepth 100000 in
theorem rput_spec (A : Option Addr) (c : Nat) (l : List Int) (i : Nat) (ch : Int) (hn : l.length ≤ 1000000) (hi : i ≤ l.length) (hc : l.length ≤ c) (w0 : World) (m0 : List Res) (hA : Rd w0 m0 A (runes l)) :
    Ct (α := Option Addr × Nat) Tryz.prog 77 [.slice A l.length c, .int .i64 i, .int .i32 ch] w0 [] m0 (fun _ => True) (fun p => SlR p (insL l i ch)) (fun p => [OwnR p (insL l i ch)]) := by
  have e1 : (l.take i).length = i - 0 := by simp; omega
  have e2 : (l.drop i).length = l.length - i := by simp
  have hB1 : Rd w0 m0 (subA A 0 c) (runes (l.take i)) := by
    have := hA.sub 0 (i - 0) c (by simpa using hc)
    rw [runes, List.map_take]
    simpa using this
  have hB2 : Rd w0 m0 (subA A i c) (runes (l.drop i)) := by
    have := hA.sub i (l.length - i) c (by simpa using hc)
    rw [List.take_of_length_le (by simp)] at this
    rw [runes, List.map_drop]
    exact this
  have e3 : insL l i ch = l.take i ++ [ch] ++ l.drop i := by unfold insL; simp
  rw [e3]
  refine Ct.of Tryz.func77 rfl (by kernel_rfl) rfl ?_
  (refine c_sq fun k17 h17 => c_rg <| r_as rfl rfl <| r_nx h17 <| c_sq fun k19 h19 => c_rg <| r_bo Tryz.underlying22 rfl (fun _ => by kernel_rfl) rfl rfl rfl (fun _ => ?_); refine r_mv rfl rfl <| r_mv rfl rfl ?_; rotate_left)
  refine r_sto elem1 size1 rfl rfl (by omega) (by omega) rfl ?_
  rw [sliced_sub, show ((i : Int)).toNat - 0 = (l.take i).length by rw [e1]; omega]
  refine r_am (xs := []) (ys := l.take i) 0 (z := .int .i32 0) (by_ := 4) (f := (.int .i32 ·)) Tryz.underlying22 (by kernel_rfl) rfl rfl rfl rfl (hB1.app _) rfl (fun _ => rfl) (by simp; omega) rfl (fun p1 _ => ?_)
  rw [List.nil_append]
  (refine r_as rfl rfl <| r_nx h19 <| c_sq fun k24 h24 => c_rg <| r_mv rfl rfl <| r_mv rfl rfl <| r_bo Tryz.underlying22 rfl (fun _ => by kernel_rfl) rfl rfl rfl (fun _ => ?_); rotate_left)
  refine r_am (xs := l.take i) (ys := [ch]) 1 (z := .int .i32 0) (by_ := 4) (f := (.int .i32 ·)) Tryz.underlying22 (by kernel_rfl) rfl rfl rfl rfl (Rd.own 0 rfl) rfl (fun _ => rfl) (by omega) rfl (fun p2 _ => ?_)
  (refine r_as rfl rfl <| r_nx h24 <| c_sq fun k29 h29 => c_rg <| r_mv rfl rfl <| r_mv rfl rfl <| r_mv rfl rfl ?_; rotate_left)
  refine r_sf elem1 size1 rfl rfl (by omega) (by omega) rfl ?_
  rw [sliced_sub, show ((i : Int)).toNat = i by omega, ← e2]
  refine r_am (xs := l.take i ++ [ch]) (ys := l.drop i) 1 (z := .int .i32 0) (by_ := 4) (f := (.int .i32 ·)) Tryz.underlying22 (by kernel_rfl) rfl rfl rfl rfl (hB2.app _) rfl (fun _ => rfl) (by rw [List.length_append, e2]; simp; omega) rfl (fun p3 _ => ?_)
  (refine r_as rfl rfl <| r_nx h29 <| c_sq fun k33 h33 => c_rg <| r_mv rfl rfl <| r_as rfl rfl <| r_nx h33 <| c_rt ?_; rotate_left)
  exact WE.ret1 p3 rfl rfl rfl trivial (Mem.pick [1] (by decide) rfl)

theorem ext_toList (s : ByteArray) (a : Nat) : (s.extract a s.size).data.toList = s.data.toList.drop a := by
  rw [ByteArray.data_extract, Array.toList_extract, List.extract_eq_take_drop]
  exact List.take_of_length_le (by simp)
theorem ext_ext (s : ByteArray) (a b : Nat) (h : a ≤ s.size) : (s.extract a s.size).extract b (s.extract a s.size).size = s.extract (a + b) s.size := by
  rw [ByteArray.extract_extract, ByteArray.size_extract]
  congr 1
  omega
def rdV : Option (List Int) → Option Addr × Nat → Value
  | none, _ => .tuple #[.slice none 0 0, .int .i64 2]
  | some l, p => .tuple #[SlR p l, .int .i64 0]
def rdM : Option (List Int) → Option Addr × Nat → List Res
  | none, _ => []
  | some l, p => [OwnR p l]
set_option maxRecDepth 100000 in
theorem rdecode_spec (s : ByteArray) (hs : s.size ≤ 65536) (w0 : World) (m0 : List Res) :
    Ct (α := Option Addr × Nat) Tryz.prog 52 [.string s] w0 [] m0 (fun _ => True) (rdV (decP s)) (rdM (decP s)) := by
  refine Ct.of Tryz.func52 rfl (by kernel_rfl) rfl ?_
  (refine c_sq fun k5 h5 => c_rg <| r_as rfl rfl <| r_as rfl rfl <| r_nx h5 <| c_sq fun k7 h7 => c_sq fun k9 h9 => c_rg <| r_as rfl rfl <| r_nx h9 <| c_bl ?_; rotate_left)
  refine WC.loop (α := Nat) (fun i => [(0, .string s), (4, .int .i64 i)]) (fun _ => []) (fun i => i ≤ s.size ∧ ∀ j, j < i → (s.data.toList.getD j 0).toNat < 128) (fun i => s.size - i) 0 ⟨by omega, by omega⟩ ⟨rfl, rfl, trivial⟩ Mem.keep ?_
  rintro i ⟨hi, hb⟩
  by_cases hlt : i < s.size
  · have h256 := (s.data.toList.getD i 0).toNat_lt
    (refine c_sq fun k16 h16 => c_sq fun k18 h18 => c_rg <| r_mv rfl rfl <| r_mv rfl rfl <| r_lS Tryz.underlying9 rfl rfl <| r_ltT rfl rfl rfl (by omega) <| r_nx h18 <| c_cT rfl <| c_sk <| WE.then_n h16 <| c_sq fun k20 h20 => c_bl <| c_sq fun k22 h22 => c_rg <| r_mv rfl rfl <| r_mv rfl rfl ?_; rotate_left)
    refine r_iS (v := s.data.toList.getD i 0) Tryz.underlying9 rfl rfl rfl (by omega) (byte_at s hlt) ?_
    by_cases hc : (s.data.toList.getD i 0).toNat < 128
    · (refine r_geF rfl rfl rfl (by omega) <| r_mv rfl rfl <| r_mv rfl rfl <| r_lS Tryz.underlying9 rfl rfl <| r_gtF rfl rfl rfl (by omega) <| r_pF rfl rfl rfl <| r_nx h22 <| c_cF rfl <| c_sk <| WE.blk_n <| WE.then_n h20 <| c_rg <| r_mv rfl rfl <| r_ad rfl rfl rfl (wadd64 (by omega)) <| r_as rfl rfl <| r_nl ?_; rotate_left)
      exact WE.back (i + 1) ⟨by omega, fun j hj => by
        rcases Nat.lt_succ_iff_lt_or_eq.1 hj with h | h
        · exact hb j h
        · rw [h]; exact hc⟩ (by omega) ⟨rfl, rfl, trivial⟩ Mem.keep
    · have hP : decP s = none := by
        have : s.data.toList.any (fun b => decide (128 ≤ b.toNat)) = true := by
          rw [List.any_eq_true]
          have h2 : i < s.data.toList.length := by simpa using hlt
          refine ⟨s.data.toList.getD i 0, ?_, decide_eq_true (by omega)⟩
          rw [List.getD_eq_getElem?_getD, List.getElem?_eq_getElem h2]
          exact List.getElem_mem _
        rw [decP, if_pos this]
      (refine r_geT rfl rfl rfl (by omega) <| r_mv rfl rfl <| r_sk rfl rfl <| r_sk rfl rfl <| r_sk rfl rfl <| r_pT rfl rfl rfl <| r_nx h22 <| c_cT rfl <| c_sq fun k26 h26 => c_rg <| r_as rfl rfl <| r_as rfl rfl <| r_nx h26 <| c_rt <| WE.blk_r <| WE.then_r <| WE.then_r <| WE.blk_r <| WE.then_r ?_; rotate_left)
      exact WE.ret2 (none, 0) rfl rfl rfl rfl (by rw [hP]; rfl) trivial (by rw [hP]; exact Mem.drop)
  · have hall : ∀ b ∈ s.data.toList, b.toNat < 128 := by
      intro b hbm
      obtain ⟨j, hj, rfl⟩ := List.mem_iff_getElem.1 hbm
      have hj' : j < s.size := by have h3 := hj; simp at h3; exact h3
      have := hb j (by omega)
      rw [List.getD_eq_getElem?_getD, List.getElem?_eq_getElem hj] at this
      exact this
    have hany : s.data.toList.any (fun b => decide (128 ≤ b.toNat)) = false := by
      rw [List.any_eq_false]
      intro b hbm
      have := hall b hbm
      simp
      omega
    have hat := lastL_bd s.data.toList 45 s.size
    have hP : decP s = (if 0 < lastL s.data.toList 45 s.size then decL (s.size + 1) (s.extract (lastL s.data.toList 45 s.size + 1).toNat s.size) (asc (s.extract 0 (lastL s.data.toList 45 s.size).toNat)) 128 0 72 else decL (s.size + 1) s [] 128 0 72) := by
      rw [decP, if_neg (by rw [hany]; decide)]
    have hh : ∀ mm, PureC Tryz.prog 75 [.string s] w0 mm (.int .i64 (lastL s.data.toList 45 s.size)) := fun mm => rhyphen_spec s (by omega) w0 mm
    generalize lastL s.data.toList 45 s.size = la at hat hP hh
    have hs0 : s.extract 0 s.size = s := by simp
    (refine c_sq fun k22 h22 => ?_)
    (refine c_sq fun k24 h24 => c_rg <| r_mv rfl rfl <| r_mv rfl rfl <| r_lS Tryz.underlying9 rfl rfl <| r_ltF rfl rfl rfl (by omega) <| r_nx h24 <| c_cF rfl <| c_ex <| WE.then_x <| WE.then_x <| WE.blk_x <| WE.then_n h7 <| c_sq fun k26 h26 => c_rg <| r_as rfl rfl <| r_nx h26 <| c_sq fun k28 h28 => c_rg <| r_as rfl rfl <| r_nx h28 ?_; rotate_left)
    refine WC.cut (α := Nat × List Int × (Option Addr × Nat)) (fun x => [(0, .string s), (5, SlR x.2.2 x.2.1), (6, .int .i64 x.1)]) (fun x => [OwnR x.2.2 x.2.1]) (fun x => decL (s.size + 1) (s.extract x.1 s.size) x.2.1 128 0 72 = decP s ∧ x.1 ≤ s.size ∧ s.size - x.1 + x.2.1.length ≤ s.size) ?_ ?_
    · (refine c_sq fun k30 h30 => c_rg <| r_mv rfl rfl ?_; rotate_left)
      refine WX.pure rfl rfl (hh _) rfl rfl ?_
      by_cases h0 : 0 < la
      · rw [if_pos h0] at hP
        obtain ⟨k, rfl⟩ : ∃ k : Nat, la = (k : Int) := ⟨la.toNat, by omega⟩
        (refine r_gtT rfl rfl rfl (by omega) <| r_nx h30 <| c_cT rfl <| c_sq fun k39 h39 => c_sq fun k41 h41 => c_rg <| r_as rfl rfl <| r_nx h41 <| c_bl ?_; rotate_left)
        refine WC.loop (α := Nat × (Option Addr × Nat)) (fun x => [(0, .string s), (5, SlR x.2 (asc (s.extract 0 x.1))), (7, .int .i64 x.1)]) (fun x => [OwnR x.2 (asc (s.extract 0 x.1))]) (fun x => x.1 ≤ k) (fun x => k - x.1) (0, (none, 0)) (by dsimp only; omega)
          ⟨rfl, by dsimp only; rw [show asc (s.extract 0 0) = [] from List.eq_nil_of_length_eq_zero (by rw [asc_length, ByteArray.size_extract]; omega)]; rfl, rfl, trivial⟩ (by dsimp only; rw [show asc (s.extract 0 0) = [] from List.eq_nil_of_length_eq_zero (by rw [asc_length, ByteArray.size_extract]; omega)]; exact Mem.nilOwn _ _) ?_
        rintro ⟨j, p⟩ hj
        dsimp only at hj ⊢
        have hlen : (asc (s.extract 0 j)).length = j := by rw [asc_length, ByteArray.size_extract]; omega
        by_cases hjl : j < k
        · have hv := (s.data.toList.getD j 0).toNat_lt
          have hnx : asc (s.extract 0 (j + 1)) = asc (s.extract 0 j) ++ [((s.data.toList.getD j 0).toNat : Int)] := by
            have g : ∀ m, m ≤ s.size → (s.extract 0 m).data.toList = s.data.toList.take m := fun m _ => by
              rw [ByteArray.data_extract, Array.toList_extract, List.extract_eq_take_drop]; simp
            unfold asc
            have hlt2 : j < s.data.toList.length := by simp; show j < s.size; omega
            rw [g _ (by omega), g _ (by omega), List.take_succ_eq_append_getElem hlt2, List.map_append]
            rw [List.getD_eq_getElem?_getD, List.getElem?_eq_getElem hlt2]
            rfl
          (refine c_sq fun k50 h50 => c_sq fun k52 h52 => c_rg <| r_mv rfl rfl <| r_mv rfl rfl ?_; rotate_left)
          refine WX.pure rfl rfl (hh _) rfl rfl ?_
          (refine r_ltT rfl rfl rfl (by omega) <| r_nx h52 <| c_cT rfl <| c_sk <| WE.then_n h50 <| c_sq fun k54 h54 => c_bl <| c_rg <| r_mv rfl rfl <| r_mv rfl rfl <| r_mv rfl rfl ?_; rotate_left)
          refine r_iS (v := s.data.toList.getD j 0) Tryz.underlying9 rfl rfl rfl (by omega) (byte_at s (by omega)) ?_
          (refine r_cv rfl (cv_int (k' := .i32) rfl Tryz.underlying21 (w32 (by omega))) rfl <| r_bo Tryz.underlying22 rfl (fun _ => by kernel_rfl) rfl rfl rfl (fun _ => ?_); rotate_left)
          refine r_am (xs := asc (s.extract 0 j)) (ys := [((s.data.toList.getD j 0).toNat : Int)]) 1 (z := .int .i32 0) (by_ := 4) (f := (.int .i32 ·)) Tryz.underlying22 (by kernel_rfl) rfl rfl rfl rfl (Rd.own 0 rfl) rfl (fun _ => rfl) (by omega) rfl (fun p2 _ => ?_)
          rw [← hnx]
          (refine r_as rfl rfl <| r_nl <| WE.blk_n <| WE.then_n h54 <| c_rg <| r_mv rfl rfl <| r_ad rfl rfl rfl (wadd64 (by omega)) <| r_as rfl rfl <| r_nl ?_; rotate_left)
          exact WE.back (j + 1, p2) (by dsimp only; omega) (by dsimp only; omega) ⟨rfl, rfl, rfl, trivial⟩ (Mem.pick [1] (by decide) rfl)
        · have hjk : j = k := by omega
          (refine c_sq fun k49 h49 => c_sq fun k51 h51 => c_rg <| r_mv rfl rfl <| r_mv rfl rfl ?_; rotate_left)
          refine WX.pure rfl rfl (hh _) rfl rfl ?_
          (refine r_ltF rfl rfl rfl (by omega) <| r_nx h51 <| c_cF rfl <| c_ex <| WE.then_x <| WE.then_x <| WE.blk_x <| WE.then_n h39 <| c_rg <| r_mv rfl rfl ?_; rotate_left)
          refine WX.pure rfl rfl (hh _) rfl rfl ?_
          (refine r_ad rfl rfl rfl (wadd64 (by omega)) <| r_as rfl rfl <| r_nl ?_; rotate_left)
          exact WE.met (k + 1, asc (s.extract 0 j), p) ⟨by dsimp only; rw [hP, hjk]; rfl, by dsimp only; omega, by dsimp only; omega⟩ ⟨rfl, rfl, congrArg (fun z => some (Value.int .i64 z)) (by dsimp only; omega), trivial⟩ Mem.keep
      · rw [if_neg h0] at hP
        (refine r_gtF rfl rfl rfl (by omega) <| r_nx h30 <| c_cF rfl <| c_sk ?_; rotate_left)
        exact WE.met (0, [], (none, 0)) ⟨by dsimp only; rw [hs0, hP], by dsimp only; omega, by simp⟩ ⟨rfl, rfl, rfl, trivial⟩ (Mem.nilOwn _ _)
    · rintro ⟨a1, l0, p⟩ ⟨e, ha1, hz⟩
      dsimp only at e ha1 hz ⊢
      (refine c_sq fun k36 h36 => c_rg <| r_as rfl rfl <| r_nx h36 <| c_sq fun k38 h38 => c_rg <| r_as rfl rfl <| r_nx h38 <| c_sq fun k40 h40 => c_rg <| r_as rfl rfl <| r_nx h40 <| c_sq fun k42 h42 => c_bl ?_; rotate_left)
      refine WC.loop (α := Nat × Nat × List Int × Int × Int × Int × (Option Addr × Nat)) (fun x => [(0, .string s), (6, .int .i64 x.2.1), (5, SlR x.2.2.2.2.2.2 x.2.2.1), (8, .int .i64 x.2.2.2.1), (9, .int .i64 x.2.2.2.2.1), (10, .int .i64 x.2.2.2.2.2.1)])
        (fun x => [OwnR x.2.2.2.2.2.2 x.2.2.1]) (fun x => decL x.1 (s.extract x.2.1 s.size) x.2.2.1 x.2.2.2.1 x.2.2.2.2.1 x.2.2.2.2.2.1 = decP s ∧ x.2.1 ≤ s.size ∧ s.size - x.2.1 < x.1 ∧ s.size - x.2.1 + x.2.2.1.length ≤ s.size ∧ (128 ≤ x.2.2.2.1 ∧ x.2.2.2.1 ≤ 1114111) ∧ (0 ≤ x.2.2.2.2.1 ∧ x.2.2.2.2.1 ≤ x.2.2.1.length) ∧ (0 ≤ x.2.2.2.2.2.1 ∧ x.2.2.2.2.2.1 ≤ 1000))
        (fun x => s.size - x.2.1) (s.size + 1, a1, l0, 128, 0, 72, p) ⟨e, ha1, by dsimp only; omega, hz, by dsimp only; omega, by dsimp only; omega, by dsimp only; omega⟩ ⟨rfl, rfl, rfl, rfl, rfl, rfl, trivial⟩ Mem.keep ?_
      clear e hz ha1 a1 l0 p hP hh
      rintro ⟨f, at_, l, n, i, bias, p⟩ ⟨e, h0, h1, h2, h3, h4, h5⟩
      dsimp only at e h0 h1 h2 h3 h4 h5 ⊢
      have hsz : (s.extract at_ s.size).size = s.size - at_ := by rw [ByteArray.size_extract]; omega
      cases f with
      | zero => omega
      | succ f =>
        rw [decL, hsz] at e
        by_cases hz : s.size - at_ = 0
        · rw [if_pos hz] at e
          (refine c_sq fun k66 h66 => c_sq fun k68 h68 => c_rg <| r_mv rfl rfl <| r_mv rfl rfl <| r_lS Tryz.underlying9 rfl rfl <| r_ltF rfl rfl rfl (by omega) <| r_nx h68 <| c_cF rfl <| c_ex <| WE.then_x <| WE.then_x <| WE.blk_x <| WE.then_n h42 <| c_sq fun k70 h70 => c_rg <| r_mv rfl rfl <| r_as rfl rfl <| r_as rfl rfl <| r_nx h70 <| c_rt ?_; rotate_left)
          exact WE.ret2 p rfl rfl rfl rfl (by rw [← e]; rfl) trivial (by rw [← e]; exact Mem.keep)
        · rw [if_neg hz] at e
          have hee : ∀ b, (s.extract at_ s.size).extract b (s.size - at_) = s.extract (at_ + b) s.size := fun b => by
            have := ext_ext s at_ b h0
            rwa [hsz] at this
          rw [hee] at e
          obtain ⟨r1, r2⟩ := readP_bd (s.extract at_ s.size) bias h5
          rw [hsz] at r2
          have hw := fun mm => rweighted_spec s at_ i bias hs h0 (by omega) h5 w0 mm
          have hrp : readL bias (s.data.toList.drop at_) 0 0 1 = readP (s.extract at_ s.size) bias := by unfold readP; rw [ext_toList]
          have hsh := readL_shift bias i h4.1 h5 (s.data.toList.drop at_) 0 0 1 (by omega) (by omega)
          rw [Int.add_zero, hrp] at hsh
          rw [hsh] at hw
          generalize (readP (s.extract at_ s.size) bias).1 = q at e r1 hw
          generalize (readP (s.extract at_ s.size) bias).2 = mn at e r2 hw
          clear hsh hrp
          by_cases c1 : mn = 0 ∨ 1099511627776 < i + q
          · rw [if_pos c1] at e hw
            simp only [if_true] at hw
            (refine c_sq fun k86 h86 => c_sq fun k88 h88 => c_rg <| r_mv rfl rfl <| r_mv rfl rfl <| r_lS Tryz.underlying9 rfl rfl <| r_ltT rfl rfl rfl (by omega) <| r_nx h88 <| c_cT rfl <| c_sk <| WE.then_n h86 <| c_bl <| c_sq fun k90 h90 => c_rg <| r_mv rfl rfl <| r_mv rfl rfl <| r_mv rfl rfl <| r_mv rfl rfl ?_; rotate_left)
            refine WX.pure rfl rfl (hw _) rfl rfl ?_
            (refine r_mv rfl rfl <| r_ex rfl rfl rfl <| r_ex rfl rfl rfl <| r_as rfl rfl <| r_as rfl rfl <| r_nx h90 <| c_sq fun k92 h92 => c_sq fun k94 h94 => c_rg <| r_mv rfl rfl <| r_eqT rfl rfl rfl (by omega) <| r_nx h94 <| c_cT rfl <| c_sq fun k96 h96 => c_rg <| r_as rfl rfl <| r_as rfl rfl <| r_nx h96 <| c_rt <| WE.then_r <| WE.blk_r <| WE.then_r <| WE.blk_r <| WE.then_r ?_; rotate_left)
            exact WE.ret2 (none, 0) rfl rfl rfl rfl (by rw [← e]; rfl) trivial (by rw [← e]; exact Mem.drop)
          · rw [if_neg c1] at e hw
            simp only at hw
            rw [if_neg (by omega)] at hw
            have d0 : 0 ≤ (i + q) / ((l.length : Int) + 1) := Int.ediv_nonneg (by omega) (by omega)
            have d1 : (i + q) / ((l.length : Int) + 1) ≤ i + q := Int.ediv_le_self _ (by omega)
            have d2 : 0 ≤ (i + q) % ((l.length : Int) + 1) := Int.emod_nonneg _ (by omega)
            have d3 : (i + q) % ((l.length : Int) + 1) < (l.length : Int) + 1 := Int.emod_lt_of_pos _ (by omega)
            have hA := adaptP_bd (delta := q) (many := (l.length : Int) + 1) (by omega) (decide (i = 0))
            have ha : ∀ m1, PureC Tryz.prog 56 [.int .i64 (i + q - i), .int .i64 ((l.length : Int) + 1), .bool (decide (i = 0))] w0 m1 (.int .i64 (adaptP q ((l.length : Int) + 1) (decide (i = 0)))) := fun m1 => by
              rw [show i + q - i = q by omega]
              exact radapt_spec q ((l.length : Int) + 1) (decide (i = 0)) (by omega) w0 m1
            generalize adaptP q ((l.length : Int) + 1) (decide (i = 0)) = bias2 at e hA ha
            (refine c_sq fun k95 h95 => c_sq fun k97 h97 => c_rg <| r_mv rfl rfl <| r_mv rfl rfl <| r_lS Tryz.underlying9 rfl rfl <| r_ltT rfl rfl rfl (by omega) <| r_nx h97 <| c_cT rfl <| c_sk <| WE.then_n h95 <| c_bl <| c_sq fun k99 h99 => c_rg <| r_mv rfl rfl <| r_mv rfl rfl <| r_mv rfl rfl <| r_mv rfl rfl ?_; rotate_left)
            refine WX.pure rfl rfl (hw _) rfl rfl ?_
            by_cases i0 : i = 0
            · rw [decide_eq_true i0] at ha
              (refine r_mv rfl rfl <| r_ex rfl rfl rfl <| r_ex rfl rfl rfl <| r_as rfl rfl <| r_as rfl rfl <| r_nx h99 <| c_sq fun k103 h103 => c_sq fun k105 h105 => c_rg <| r_mv rfl rfl <| r_eqF rfl rfl rfl (by omega) <| r_nx h105 <| c_cF rfl <| c_sk <| WE.then_n h103 <| c_sq fun k107 h107 => c_rg <| r_mv rfl rfl <| r_ls Tryz.underlying22 rfl rfl <| r_ad rfl rfl rfl (wadd64 (by omega)) <| r_as rfl rfl <| r_nx h107 <| c_sq fun k109 h109 => c_rg <| r_mv rfl rfl <| r_mv rfl rfl <| r_su rfl rfl rfl (wsub64 (by omega)) <| r_mv rfl rfl <| r_mv rfl rfl <| r_eqT rfl rfl rfl (by omega) ?_; rotate_left)
              refine WX.pure rfl rfl (ha _) rfl rfl ?_
              (refine r_as rfl rfl <| r_nx h109 <| c_sq fun k111 h111 => c_rg <| r_mv rfl rfl <| r_mv rfl rfl <| r_mv rfl rfl <| r_qu rfl rfl rfl (by omega) (wquo64 (by omega)) <| r_ad rfl rfl rfl (wadd64 (by omega)) <| r_as rfl rfl <| r_nx h111 <| c_sq fun k113 h113 => c_rg <| r_mv rfl rfl <| r_mv rfl rfl <| r_re rfl rfl rfl (by omega) (wrem (by omega)) <| r_as rfl rfl <| r_nx h113 <| c_sq fun k115 h115 => c_sq fun k117 h117 => c_rg <| r_mv rfl rfl ?_; rotate_left)
              generalize (i + q) / ((l.length : Int) + 1) = dv at e d0 d1 ⊢
              generalize (i + q) % ((l.length : Int) + 1) = k at e d2 d3 ⊢
              obtain ⟨kn, rfl⟩ : ∃ kn : Nat, k = (kn : Int) := ⟨k.toNat, by omega⟩
              rw [Int.toNat_natCast] at e
              by_cases v1 : 1114111 < n + dv
              · rw [if_pos (.inl v1)] at e
                (refine r_gtT rfl rfl rfl (by omega) <| r_mv rfl rfl <| r_sk rfl rfl <| r_sk rfl rfl <| r_sk rfl rfl <| r_sk rfl rfl <| r_pT rfl rfl rfl <| r_nx h117 <| c_cT rfl <| c_sq fun k134 h134 => c_rg <| r_as rfl rfl <| r_as rfl rfl <| r_nx h134 <| c_rt <| WE.then_r <| WE.blk_r <| WE.then_r <| WE.blk_r <| WE.then_r ?_; rotate_left)
                exact WE.ret2 (none, 0) rfl rfl rfl rfl (by rw [← e]; rfl) trivial (by rw [← e]; exact Mem.drop)
              · have hsc : ∀ mm, PureC Tryz.prog 22 [.int .i32 (n + dv)] w0 mm (.bool (decide (ScP (n + dv)))) := fun mm => scalar_spec (n + dv) w0 mm
                by_cases v2 : ScP (n + dv)
                · rw [if_neg (fun h => h.elim v1 (fun h => h v2))] at e
                  rw [decide_eq_true v2] at hsc
                  (refine r_gtF rfl rfl rfl (by omega) <| r_mv rfl rfl <| r_mv rfl rfl <| r_cv rfl (cv_int (k' := .i32) rfl Tryz.underlying21 (w32 (by omega))) rfl ?_; rotate_left)
                  refine WX.pure rfl rfl (hsc _) rfl rfl ?_
                  (refine r_no rfl rfl rfl <| r_pF rfl rfl rfl <| r_nx h117 <| c_cF rfl <| c_sk <| WE.then_n h115 <| c_sq fun k137 h137 => c_rg <| r_mv rfl rfl <| r_mv rfl rfl <| r_mv rfl rfl <| r_cv rfl (cv_int (k' := .i32) rfl Tryz.underlying21 (w32 (by omega))) rfl ?_; rotate_left)
                  refine WX.room 0 rfl (fun hpc => ?_)
                  refine WX.call (m1 := []) (m2 := _) rfl rfl rfl (rput_spec p.1 p.2 l kn (n + dv) (by omega) (by omega) hpc _ _ (Rd.own 0 rfl)) rfl rfl (fun p2 _ => ?_)
                  have hl2 := insL_length l kn (n + dv) (by omega)
                  (refine r_as rfl rfl <| r_nx h137 <| c_sq fun k143 h143 => c_rg <| r_mv rfl rfl <| r_ad rfl rfl rfl (wadd64 (by omega)) <| r_as rfl rfl <| r_nx h143 <| c_rg <| r_mv rfl rfl <| r_as rfl rfl <| r_nl <| WE.blk_n ?_; rotate_left)
                  exact WE.back (f, at_ + mn.toNat, insL l kn (n + dv), n + dv, (kn : Int) + 1, bias2, p2) ⟨e, by dsimp only; omega, by dsimp only; omega, by dsimp only; rw [hl2]; omega, by dsimp only; omega, by dsimp only; rw [hl2]; omega, hA⟩ (by dsimp only; omega)
                    ⟨rfl, congrArg (fun z => some (Value.int .i64 z)) (by dsimp only; omega), rfl, rfl, rfl, rfl, trivial⟩ (Mem.pick [0] (by decide) rfl)
                · rw [if_pos (.inr v2)] at e
                  rw [decide_eq_false v2] at hsc
                  (refine r_gtF rfl rfl rfl (by omega) <| r_mv rfl rfl <| r_mv rfl rfl <| r_cv rfl (cv_int (k' := .i32) rfl Tryz.underlying21 (w32 (by omega))) rfl ?_; rotate_left)
                  refine WX.pure rfl rfl (hsc _) rfl rfl ?_
                  (refine r_no rfl rfl rfl <| r_pF rfl rfl rfl <| r_nx h117 <| c_cT rfl <| c_sq fun k137 h137 => c_rg <| r_as rfl rfl <| r_as rfl rfl <| r_nx h137 <| c_rt <| WE.then_r <| WE.blk_r <| WE.then_r <| WE.blk_r <| WE.then_r ?_; rotate_left)
                  exact WE.ret2 (none, 0) rfl rfl rfl rfl (by rw [← e]; rfl) trivial (by rw [← e]; exact Mem.drop)
            · rw [decide_eq_false i0] at ha
              (refine r_mv rfl rfl <| r_ex rfl rfl rfl <| r_ex rfl rfl rfl <| r_as rfl rfl <| r_as rfl rfl <| r_nx h99 <| c_sq fun k103 h103 => c_sq fun k105 h105 => c_rg <| r_mv rfl rfl <| r_eqF rfl rfl rfl (by omega) <| r_nx h105 <| c_cF rfl <| c_sk <| WE.then_n h103 <| c_sq fun k107 h107 => c_rg <| r_mv rfl rfl <| r_ls Tryz.underlying22 rfl rfl <| r_ad rfl rfl rfl (wadd64 (by omega)) <| r_as rfl rfl <| r_nx h107 <| c_sq fun k109 h109 => c_rg <| r_mv rfl rfl <| r_mv rfl rfl <| r_su rfl rfl rfl (wsub64 (by omega)) <| r_mv rfl rfl <| r_mv rfl rfl <| r_eqF rfl rfl rfl (by omega) ?_; rotate_left)
              refine WX.pure rfl rfl (ha _) rfl rfl ?_
              (refine r_as rfl rfl <| r_nx h109 <| c_sq fun k111 h111 => c_rg <| r_mv rfl rfl <| r_mv rfl rfl <| r_mv rfl rfl <| r_qu rfl rfl rfl (by omega) (wquo64 (by omega)) <| r_ad rfl rfl rfl (wadd64 (by omega)) <| r_as rfl rfl <| r_nx h111 <| c_sq fun k113 h113 => c_rg <| r_mv rfl rfl <| r_mv rfl rfl <| r_re rfl rfl rfl (by omega) (wrem (by omega)) <| r_as rfl rfl <| r_nx h113 <| c_sq fun k115 h115 => c_sq fun k117 h117 => c_rg <| r_mv rfl rfl ?_; rotate_left)
              generalize (i + q) / ((l.length : Int) + 1) = dv at e d0 d1 ⊢
              generalize (i + q) % ((l.length : Int) + 1) = k at e d2 d3 ⊢
              obtain ⟨kn, rfl⟩ : ∃ kn : Nat, k = (kn : Int) := ⟨k.toNat, by omega⟩
              rw [Int.toNat_natCast] at e
              by_cases v1 : 1114111 < n + dv
              · rw [if_pos (.inl v1)] at e
                (refine r_gtT rfl rfl rfl (by omega) <| r_mv rfl rfl <| r_sk rfl rfl <| r_sk rfl rfl <| r_sk rfl rfl <| r_sk rfl rfl <| r_pT rfl rfl rfl <| r_nx h117 <| c_cT rfl <| c_sq fun k134 h134 => c_rg <| r_as rfl rfl <| r_as rfl rfl <| r_nx h134 <| c_rt <| WE.then_r <| WE.blk_r <| WE.then_r <| WE.blk_r <| WE.then_r ?_; rotate_left)
                exact WE.ret2 (none, 0) rfl rfl rfl rfl (by rw [← e]; rfl) trivial (by rw [← e]; exact Mem.drop)
              · have hsc : ∀ mm, PureC Tryz.prog 22 [.int .i32 (n + dv)] w0 mm (.bool (decide (ScP (n + dv)))) := fun mm => scalar_spec (n + dv) w0 mm
                by_cases v2 : ScP (n + dv)
                · rw [if_neg (fun h => h.elim v1 (fun h => h v2))] at e
                  rw [decide_eq_true v2] at hsc
                  (refine r_gtF rfl rfl rfl (by omega) <| r_mv rfl rfl <| r_mv rfl rfl <| r_cv rfl (cv_int (k' := .i32) rfl Tryz.underlying21 (w32 (by omega))) rfl ?_; rotate_left)
                  refine WX.pure rfl rfl (hsc _) rfl rfl ?_
                  (refine r_no rfl rfl rfl <| r_pF rfl rfl rfl <| r_nx h117 <| c_cF rfl <| c_sk <| WE.then_n h115 <| c_sq fun k137 h137 => c_rg <| r_mv rfl rfl <| r_mv rfl rfl <| r_mv rfl rfl <| r_cv rfl (cv_int (k' := .i32) rfl Tryz.underlying21 (w32 (by omega))) rfl ?_; rotate_left)
                  refine WX.room 0 rfl (fun hpc => ?_)
                  refine WX.call (m1 := []) (m2 := _) rfl rfl rfl (rput_spec p.1 p.2 l kn (n + dv) (by omega) (by omega) hpc _ _ (Rd.own 0 rfl)) rfl rfl (fun p2 _ => ?_)
                  have hl2 := insL_length l kn (n + dv) (by omega)
                  (refine r_as rfl rfl <| r_nx h137 <| c_sq fun k143 h143 => c_rg <| r_mv rfl rfl <| r_ad rfl rfl rfl (wadd64 (by omega)) <| r_as rfl rfl <| r_nx h143 <| c_rg <| r_mv rfl rfl <| r_as rfl rfl <| r_nl <| WE.blk_n ?_; rotate_left)
                  exact WE.back (f, at_ + mn.toNat, insL l kn (n + dv), n + dv, (kn : Int) + 1, bias2, p2) ⟨e, by dsimp only; omega, by dsimp only; omega, by dsimp only; rw [hl2]; omega, by dsimp only; omega, by dsimp only; rw [hl2]; omega, hA⟩ (by dsimp only; omega)
                    ⟨rfl, congrArg (fun z => some (Value.int .i64 z)) (by dsimp only; omega), rfl, rfl, rfl, rfl, trivial⟩ (Mem.pick [0] (by decide) rfl)
                · rw [if_pos (.inr v2)] at e
                  rw [decide_eq_false v2] at hsc
                  (refine r_gtF rfl rfl rfl (by omega) <| r_mv rfl rfl <| r_mv rfl rfl <| r_cv rfl (cv_int (k' := .i32) rfl Tryz.underlying21 (w32 (by omega))) rfl ?_; rotate_left)
                  refine WX.pure rfl rfl (hsc _) rfl rfl ?_
                  (refine r_no rfl rfl rfl <| r_pF rfl rfl rfl <| r_nx h117 <| c_cT rfl <| c_sq fun k137 h137 => c_rg <| r_as rfl rfl <| r_as rfl rfl <| r_nx h137 <| c_rt <| WE.then_r <| WE.blk_r <| WE.then_r <| WE.blk_r <| WE.then_r ?_; rotate_left)
                  exact WE.ret2 (none, 0) rfl rfl rfl rfl (by rw [← e]; rfl) trivial (by rw [← e]; exact Mem.drop)
end Go.Proofs.YthnabbidlmihbaaGreatDoor

/- puny.Encode: the walk. -/
namespace Go.Proofs.YthnabbidlmihbaaGreatDoor
open Go.RowKit Go.Gp

def Sc (l : List Int) : Prop := ∀ c ∈ l, ScP c
theorem Sc.getD {l : List Int} (h : Sc l) {i : Nat} (hi : i < l.length) : ScP (l.getD i 0) := h _ (by simp [hi])
set_option maxRecDepth 100000 in
theorem encode_spec (A : Option Addr) (c : Nat) (l : List Int) (hn : l.length ≤ 65536) (hl : Sc l) (w0 : World) (m0 : List Res) (hA : Rd w0 m0 A (runes l)) :
    PureC Tryz.prog 21 [.slice A l.length c] w0 m0 (.tuple #[.string (strOf (encP l)), .nilIface]) := by
  have hany : l.any (fun c => !decide (ScP c)) = false := by
    rw [List.any_eq_false]
    intro x hx
    simp [hl x hx]
  refine Ct.of Tryz.func21 rfl (by kernel_rfl) rfl ?_
  (refine c_sq fun k10 h10 => c_rg <| r_as rfl rfl <| r_as rfl rfl <| r_nx h10 <| c_sq fun k12 h12 => c_rg <| r_as rfl rfl <| r_nx h12 <| c_sq fun k14 h14 => c_sq fun k16 h16 => c_rg <| r_mv rfl rfl <| r_ls Tryz.underlying22 rfl rfl <| r_gtF rfl rfl rfl (by omega) <| r_mv rfl rfl <| r_mv rfl rfl <| r_mv rfl rfl ?_; rotate_left)
  refine WX.pure (v := .bool false) rfl rfl ?_ rfl rfl ?_
  · have := containsFunc_spec A c l 44 [] (fun c => !decide (ScP c)) (by omega) w0 m0 hA (fun c m => notValid2_spec c w0 (m ++ m0))
    rw [hany] at this
    exact this
  (refine r_pF rfl rfl rfl <| r_nx h16 <| c_cF rfl <| c_sk <| WE.then_n h14 <| c_sq fun k18 h18 => c_rg <| r_al (z := .agg #[.pointer none, .slice none 0 0]) (cs := [.pointer none, .slice none 0 0]) (fun _ => by kernel_rfl) rfl rfl (fun _ => ?_); refine r_nx h18 <| c_sq fun k21 h21 => c_sq fun k23 h23 => c_rg <| r_mv rfl rfl <| r_ls Tryz.underlying22 rfl rfl <| r_mv rfl rfl <| r_nx h23 <| c_bl ?_; rotate_left)
  rename_i g
  refine WC.loop (α := Nat × Bool × (Option Addr × Nat)) (fun x => [(0, .slice A l.length c), (5, .pointer (some ⟨g, 0, none⟩)), (27, .slice A l.length c), (28, .int .i64 l.length), (29, .int .i64 x.1)])
    (fun x => [BB x.2.1 g x.2.2 (basics (l.take x.1)), OwnB x.2.2 (basics (l.take x.1))]) (fun x => x.1 ≤ l.length ∧ (basics (l.take x.1)).length ≤ x.1 ∧ (basics (l.take x.1) = [] → x.2.2 = (none, 0))) (fun x => l.length - x.1)
    (0, false, (none, 0)) ⟨by simp, by simp [basics], fun _ => rfl⟩ ⟨rfl, rfl, rfl, rfl, rfl, trivial⟩ (fun w hw => Mem.pick (m' := [BB false g (none, 0) [], OwnB (none, 0) []]) [1, 0] (by decide) rfl w (Mem.addNil _ _ w hw)) ?_
  rintro ⟨i, u, p⟩ ⟨hi, hbl, hbp⟩
  dsimp only at hi hbl hbp ⊢
  by_cases hlt : i < l.length
  · have hc := hl.getD hlt
    have hs := basics_snoc (l.take i) (l.getD i 0)
    rw [← take_next hlt] at hs
    by_cases hc2 : l.getD i 0 < 128
    · rw [if_pos hc2] at hs
      have hb := b8_toNat hc.1.1 (by omega)
      (refine c_sq fun k38 h38 => c_rg <| r_ltT rfl rfl rfl (by omega) <| r_nx h38 <| c_sq fun k40 h40 => c_cT rfl <| c_sk <| WE.then_n h40 <| c_sq fun k42 h42 => c_bl <| c_sq fun k44 h44 => c_rg <| r_im (hA.app _) Tryz.underlying22 (by kernel_rfl) rfl rfl rfl rfl (by omega) (by omega) <| r_li (i) (hA.app _) Tryz.underlying21 rfl rfl rfl (by omega) <| r_as rfl rfl <| r_nx h44 <| c_sq fun k46 h46 => c_rg <| r_mv rfl rfl <| r_ltT rfl rfl rfl (by omega) <| r_nx h46 <| c_cT rfl <| c_rg <| r_mv rfl rfl ?_; rotate_left)
      rw [← hb]
      refine WX.call (m1 := [BB u g p (basics (l.take i)), OwnB p (basics (l.take i))]) (m2 := []) rfl rfl rfl (writeAscii_spec u g p (basics (l.take i)) (b8 (l.getD i 0)) (by omega) (by omega) _ _) rfl rfl (fun p2 _ => ?_)
      rw [← hs]
      (refine r_nl <| WE.blk_n <| WE.then_n h42 <| c_rg <| r_ad rfl rfl rfl (wadd64 (by omega)) <| r_mv rfl rfl <| r_nl ?_; rotate_left)
      exact WE.back (i + 1, true, p2) ⟨by dsimp only; omega, by dsimp only; rw [hs]; simp; omega, fun h => by dsimp only at h; rw [hs] at h; simp at h⟩ (by dsimp only; omega) ⟨rfl, rfl, rfl, rfl, rfl, trivial⟩ Mem.keep
    · rw [if_neg hc2] at hs
      (refine c_sq fun k37 h37 => c_rg <| r_ltT rfl rfl rfl (by omega) <| r_nx h37 <| c_sq fun k39 h39 => c_cT rfl <| c_sk <| WE.then_n h39 <| c_sq fun k41 h41 => c_bl <| c_sq fun k43 h43 => c_rg <| r_im (hA.app _) Tryz.underlying22 (by kernel_rfl) rfl rfl rfl rfl (by omega) (by omega) <| r_li (i) (hA.app _) Tryz.underlying21 rfl rfl rfl (by omega) <| r_as rfl rfl <| r_nx h43 <| c_sq fun k45 h45 => c_rg <| r_mv rfl rfl <| r_ltF rfl rfl rfl (by omega) <| r_nx h45 <| c_cF rfl <| c_sk <| WE.blk_n <| WE.then_n h41 <| c_rg <| r_ad rfl rfl rfl (wadd64 (by omega)) <| r_mv rfl rfl <| r_nl ?_; rotate_left)
      exact WE.back (i + 1, u, p) ⟨by dsimp only; omega, by dsimp only; rw [hs]; omega, fun h => by dsimp only at h; rw [hs] at h; exact hbp h⟩ (by dsimp only; omega) ⟨rfl, rfl, rfl, rfl, rfl, trivial⟩ (by dsimp only; rw [hs]; exact Mem.keep)
  · have e : l.take i = l := List.take_of_length_le (by omega)
    rw [e] at hbl hbp ⊢
    (refine c_sq fun k35 h35 => c_rg <| r_ltF rfl rfl rfl (by omega) <| r_nx h35 <| c_sq fun k37 h37 => c_cF rfl <| c_ex <| WE.then_x <| WE.then_x <| WE.blk_x <| WE.then_n h21 <| c_sq fun k39 h39 => c_rg ?_; rotate_left)
    refine WX.call (m1 := [BB u g p (basics l)]) (m2 := [OwnB p (basics l)]) rfl rfl rfl (bLen_spec u g p (basics l) _ _) rfl rfl (fun _ _ => ?_)
    obtain ⟨out0, ho⟩ : ∃ o, o = (if 0 < (basics l).length then basics l ++ [45] else []) := ⟨_, rfl⟩
    have hcnt := basics_length l
    have hcl : (basics l).length ≤ l.length := by omega
    have hol : out0.length ≤ (basics l).length + 1 := by rw [ho]; split <;> simp
    have hE : encP l = encOut l (basics l).length (l.length + 1) 128 (0, 72, (basics l).length, out0) := by rw [ho]; rfl
    (refine r_as rfl rfl <| r_nx h39 ?_)
    refine WC.cut (α := Bool × (Option Addr × Nat)) (fun x => [(0, .slice A l.length c), (5, .pointer (some ⟨g, 0, none⟩)), (8, .int .i64 (basics l).length)]) (fun x => [BB x.1 g x.2 out0, OwnB x.2 out0]) (fun x => out0 = [] → x.2 = (none, 0)) ?_ ?_
    · by_cases h0 : 0 < (basics l).length
      · rw [if_pos h0] at ho
        subst ho
        (refine c_sq fun k53 h53 => c_rg <| r_mv rfl rfl <| r_gtT rfl rfl rfl (by omega) <| r_nx h53 <| c_cT rfl <| c_rg ?_; rotate_left)
        refine WX.call (m1 := [BB u g p (basics l), OwnB p (basics l)]) (m2 := []) rfl rfl rfl (writeByte_spec u g p (basics l) 45 (by omega) _ _) rfl rfl (fun p2 _ => ?_)
        (refine r_nl ?_; rotate_left)
        exact WE.met (true, p2) (fun h => by simp at h) ⟨rfl, rfl, rfl, trivial⟩ Mem.keep
      · have hb0 : basics l = [] := List.eq_nil_of_length_eq_zero (by omega)
        rw [if_neg h0] at ho
        subst ho
        (refine c_sq fun k54 h54 => c_rg <| r_mv rfl rfl <| r_gtF rfl rfl rfl (by omega) <| r_nx h54 <| c_cF rfl <| c_sk ?_; rotate_left)
        exact WE.met (u, p) (fun _ => hbp hb0) ⟨rfl, rfl, rfl, trivial⟩ (by dsimp only; rw [hb0]; exact Mem.keep)
    · clear hbp hbl hlt hi e ho
      rintro ⟨u, p⟩ hp
      dsimp only at hp ⊢
      have hmx : ∀ x ∈ l, x ≤ 1114111 := fun x hx => (hl x hx).1.2
      (refine c_sq fun k53 h53 => c_rg <| r_as rfl rfl <| r_as rfl rfl <| r_as rfl rfl <| r_nx h53 <| c_sq fun k55 h55 => c_sq fun k57 h57 => c_rg <| r_mv rfl rfl <| r_as rfl rfl <| r_nx h57 <| c_bl ?_; rotate_left)
      refine WC.loop (α := Nat × Int × ES × Bool × (Option Addr × Nat)) (fun x => [(0, .slice A l.length c), (5, .pointer (some ⟨g, 0, none⟩)), (8, .int .i64 (basics l).length), (9, .int .i64 x.2.1), (10, .int .i64 x.2.2.1.1), (11, .int .i64 x.2.2.1.2.1), (12, .int .i64 x.2.2.1.2.2.1)])
        (fun x => [BB x.2.2.2.1 g x.2.2.2.2 x.2.2.1.2.2.2, OwnB x.2.2.2.2 x.2.2.1.2.2.2])
        (fun x => encOut l (basics l).length x.1 x.2.1 x.2.2.1 = encP l ∧ l.length < x.1 + x.2.2.1.2.2.1 ∧ x.2.2.1.2.2.1 = below x.2.1 l ∧ (128 ≤ x.2.1 ∧ x.2.1 ≤ 1114112) ∧ (0 ≤ x.2.2.1.1 ∧ x.2.2.1.1 ≤ x.2.1 * (l.length + 1)) ∧ (0 ≤ x.2.2.1.2.1 ∧ x.2.2.1.2.1 ≤ 1000) ∧ x.2.2.1.2.2.2.length ≤ l.length + 1 + 20 * x.2.2.1.2.2.1 ∧ (x.2.2.1.2.2.2 = [] → x.2.2.2.2 = (none, 0)))
        (fun x => l.length - x.2.2.1.2.2.1) (l.length + 1, 128, (0, 72, (basics l).length, out0), u, p)
        ⟨hE.symm, by dsimp only; omega, hcnt, by dsimp only; omega, by dsimp only; omega, by dsimp only; omega, by dsimp only; omega, hp⟩ ⟨rfl, rfl, rfl, rfl, rfl, rfl, rfl, trivial⟩ Mem.keep ?_
      clear hp u p hol hE out0
      rintro ⟨f, n, ⟨delta, bias, h, out⟩, u, p⟩ ⟨e1, e2, e3, e4, e5, e6, e7, e8⟩
      dsimp only at e1 e2 e3 e4 e5 e6 e7 e8 ⊢
      have hbl2 : below n l ≤ l.length := List.countP_le_length
      by_cases hlt : h < l.length
      · cases f with
        | zero => omega
        | succ f =>
          rw [encOut, if_pos hlt] at e1
          obtain ⟨hm1, hm2⟩ := minGe_mem hmx (n := n) (by omega)
          have hmb := hmx _ hm1
          have q0 : 0 ≤ (minGe n l - n) * ((h : Int) + 1) := Int.mul_nonneg (by omega) (by omega)
          have q1 : (minGe n l - n) * ((h : Int) + 1) ≤ (minGe n l - n) * ((l.length : Int) + 1) := Int.mul_le_mul_of_nonneg_left (by omega) (by omega)
          have q2 : n * ((l.length : Int) + 1) + (minGe n l - n) * ((l.length : Int) + 1) = minGe n l * ((l.length : Int) + 1) := by rw [← Int.add_mul]; congr 1; omega
          have q3 : minGe n l * ((l.length : Int) + 1) ≤ 1114111 * 65537 := Int.mul_le_mul hmb (by omega) (by omega) (by omega)
          have q4 : 0 ≤ n * ((l.length : Int) + 1) := Int.mul_nonneg (by omega) (by omega)
          have q5 : (minGe n l + 1) * ((l.length : Int) + 1) = minGe n l * ((l.length : Int) + 1) + ((l.length : Int) + 1) := by rw [Int.add_mul, Int.one_mul]
          (refine c_sq fun k93 h93 => c_sq fun k95 h95 => c_rg <| r_mv rfl rfl <| r_mv rfl rfl <| r_ls Tryz.underlying22 rfl rfl <| r_ltT rfl rfl rfl (by omega) <| r_nx h95 <| c_cT rfl <| c_sk <| WE.then_n h93 <| c_bl <| c_sq fun k97 h97 => c_rg <| r_as rfl rfl <| r_nx h97 <| c_sq fun k99 h99 => c_sq fun k101 h101 => c_rg <| r_mv rfl rfl <| r_ls Tryz.underlying22 rfl rfl <| r_mv rfl rfl <| r_nx h101 <| c_bl ?_; rotate_left)
          refine WC.loop (α := Nat) (fun i => [(0, .slice A l.length c), (5, .pointer (some ⟨g, 0, none⟩)), (8, .int .i64 (basics l).length), (9, .int .i64 n), (10, .int .i64 delta), (11, .int .i64 bias), (12, .int .i64 h), (47, .slice A l.length c), (48, .int .i64 l.length), (49, .int .i64 i), (13, .int .i32 (minGe n (l.take i)))])
            (fun _ => [BB u g p out, OwnB p out]) (fun i => i ≤ l.length) (fun i => l.length - i) 0 (by omega) ⟨rfl, rfl, rfl, rfl, rfl, rfl, rfl, rfl, rfl, rfl, rfl, trivial⟩ Mem.keep ?_
          intro i hi
          by_cases hli : i < l.length
          · have hc := hl.getD hli
            have hs := minGe_snoc n (l.take i) (l.getD i 0)
            rw [← take_next hli] at hs
            (refine c_sq fun k109 h109 => c_rg <| r_ltT rfl rfl rfl (by omega) <| r_nx h109 <| c_sq fun k111 h111 => c_cT rfl <| c_sk <| WE.then_n h111 <| c_sq fun k113 h113 => c_bl <| c_sq fun k115 h115 => c_rg <| r_im (hA.app _) Tryz.underlying22 (by kernel_rfl) rfl rfl rfl rfl (by omega) (by omega) <| r_li (i) (hA.app _) Tryz.underlying21 rfl rfl rfl (by omega) <| r_as rfl rfl <| r_nx h115 <| c_sq fun k117 h117 => c_rg <| r_mv rfl rfl <| r_cv rfl (cv_int (k' := .i64) rfl Tryz.underlying3 (w64 (by omega))) rfl <| r_mv rfl rfl ?_; rotate_left)
            by_cases hc2 : n ≤ l.getD i 0
            · rw [if_pos hc2] at hs
              (refine r_geT rfl rfl rfl (by omega) <| r_nx h117 <| c_cT rfl <| c_rg <| r_mv rfl rfl <| r_mv rfl rfl <| r_mn rfl rfl rfl <| r_as rfl rfl <| r_nl <| WE.blk_n <| WE.then_n h113 <| c_rg <| r_ad rfl rfl rfl (wadd64 (by omega)) <| r_mv rfl rfl <| r_nl ?_; rotate_left)
              rw [← hs]
              (rotate_left)
              exact WE.back (i + 1) (by omega) (by omega) ⟨rfl, rfl, rfl, rfl, rfl, rfl, rfl, rfl, rfl, rfl, rfl, trivial⟩ Mem.keep
            · rw [if_neg hc2] at hs
              (refine r_geF rfl rfl rfl (by omega) <| r_nx h117 <| c_cF rfl <| c_sk <| WE.blk_n <| WE.then_n h113 <| c_rg <| r_ad rfl rfl rfl (wadd64 (by omega)) <| r_mv rfl rfl <| r_nl ?_; rotate_left)
              exact WE.back (i + 1) (by omega) (by omega) ⟨rfl, rfl, rfl, rfl, rfl, rfl, rfl, rfl, rfl, rfl, by rw [hs]; rfl, trivial⟩ Mem.keep
          · rw [show l.take i = l from List.take_of_length_le (by omega)]
            (refine c_sq fun k106 h106 => c_rg <| r_ltF rfl rfl rfl (by omega) <| r_nx h106 <| c_sq fun k108 h108 => c_cF rfl <| c_ex <| WE.then_x <| WE.then_x <| WE.blk_x <| WE.then_n h99 <| c_sq fun k110 h110 => c_rg <| r_mv rfl rfl <| r_mv rfl rfl <| r_cv rfl (cv_int (k' := .i64) rfl Tryz.underlying3 (w64 (by omega))) rfl <| r_mv rfl rfl <| r_su rfl rfl rfl (wsub64 (by omega)) <| r_mv rfl rfl <| r_ad rfl rfl rfl (wadd64 (by omega)) <| r_mu rfl rfl rfl (wmul64 (by omega)) <| r_ad rfl rfl rfl (wadd64 (by omega)) <| r_as rfl rfl <| r_nx h110 <| c_sq fun k112 h112 => c_rg <| r_mv rfl rfl <| r_cv rfl (cv_int (k' := .i64) rfl Tryz.underlying3 (w64 (by omega))) rfl <| r_as rfl rfl <| r_nx h112 <| c_sq fun k114 h114 => c_sq fun k116 h116 => c_rg <| r_mv rfl rfl <| r_ls Tryz.underlying22 rfl rfl <| r_mv rfl rfl <| r_nx h116 <| c_bl ?_; rotate_left)
            (rotate_left)
            (rotate_left)
            obtain ⟨s0, hs0⟩ : ∃ s0 : ES, s0 = (delta + (minGe n l - n) * ((h : Int) + 1), bias, h, out) := ⟨_, rfl⟩
            have hd0 : s0.1 = delta + (minGe n l - n) * ((h : Int) + 1) := by rw [hs0]
            have hb0 : s0.2.1 = bias := by rw [hs0]
            have hh0 : s0.2.2.1 = h := by rw [hs0]
            have ho0 : s0.2.2.2 = out := by rw [hs0]
            refine WC.loop (α := Nat × ES × Bool × (Option Addr × Nat)) (fun x => [(0, .slice A l.length c), (5, .pointer (some ⟨g, 0, none⟩)), (8, .int .i64 (basics l).length), (9, .int .i64 (minGe n l)), (10, .int .i64 x.2.1.1), (11, .int .i64 x.2.1.2.1), (12, .int .i64 x.2.1.2.2.1), (72, .slice A l.length c), (73, .int .i64 l.length), (74, .int .i64 x.1)])
              (fun x => [BB x.2.2.1 g x.2.2.2 x.2.1.2.2.2, OwnB x.2.2.2 x.2.1.2.2.2]) (fun x => x.1 ≤ l.length ∧ encIn (minGe n l) (basics l).length (l.take x.1) s0 = x.2.1 ∧ (x.2.1.2.2.2 = [] → x.2.2.2 = (none, 0))) (fun x => l.length - x.1)
              (0, (delta + (minGe n l - n) * ((h : Int) + 1), bias, h, out), u, p) ⟨by simp, by rw [hs0]; rfl, e8⟩ ⟨rfl, rfl, rfl, rfl, rfl, rfl, rfl, rfl, rfl, rfl, trivial⟩ Mem.keep ?_
            rintro ⟨i, ⟨dl, bi, hh, o⟩, u, p⟩ ⟨hi, he, hp⟩
            dsimp only at hi he hp ⊢
            have htl : (l.take i).length = i := by simp; omega
            have pr := encIn_props (minGe n l) (basics l).length s0 (by omega) (by omega) i (l.take i) htl (by omega)
            rw [he] at pr
            obtain ⟨p1, p2, p3, p4⟩ := pr
            have hcp : (l.take i).countP (fun c => decide (c = minGe n l)) ≤ (l.take i).length := List.countP_le_length
            dsimp only at p1 p2 p3 p4
            rw [ho0] at p4
            rw [hh0] at p3
            by_cases hli : i < l.length
            · have hc := hl.getD hli
              have hs := encIn_snoc (minGe n l) (basics l).length (l.take i) (l.getD i 0) s0
              rw [← take_next hli, he] at hs
              unfold encStep at hs
              dsimp only at hs
              (refine c_sq fun k148 h148 => c_rg <| r_ltT rfl rfl rfl (by omega) <| r_nx h148 <| c_sq fun k150 h150 => c_cT rfl <| c_sk <| WE.then_n h150 <| c_sq fun k152 h152 => c_bl <| c_sq fun k154 h154 => c_rg <| r_im (hA.app _) Tryz.underlying22 (by kernel_rfl) rfl rfl rfl rfl (by omega) (by omega) <| r_li (i) (hA.app _) Tryz.underlying21 rfl rfl rfl (by omega) <| r_as rfl rfl <| r_nx h154 <| c_sq fun k156 h156 => c_sq fun k158 h158 => c_rg <| r_mv rfl rfl <| r_cv rfl (cv_int (k' := .i64) rfl Tryz.underlying3 (w64 (by omega))) rfl <| r_mv rfl rfl ?_; rotate_left)
              by_cases hc2 : l.getD i 0 < minGe n l
              · rw [if_pos hc2, if_neg (by omega)] at hs
                (refine r_ltT rfl rfl rfl (by omega) <| r_nx h158 <| c_cT rfl <| c_rg <| r_mv rfl rfl <| r_ad rfl rfl rfl (wadd64 (by omega)) <| r_as rfl rfl <| r_nx h156 <| c_sq fun k163 h163 => c_rg <| r_mv rfl rfl <| r_cv rfl (cv_int (k' := .i64) rfl Tryz.underlying3 (w64 (by omega))) rfl <| r_mv rfl rfl <| r_eqF rfl rfl rfl (by omega) <| r_nx h163 <| c_cF rfl <| c_sk <| WE.blk_n <| WE.then_n h152 <| c_rg <| r_ad rfl rfl rfl (wadd64 (by omega)) <| r_mv rfl rfl <| r_nl ?_; rotate_left)
                (rotate_left)
                exact WE.back (i + 1, (dl + 1, bi, hh, o), u, p) ⟨by dsimp only; omega, hs, hp⟩ (by dsimp only; omega) ⟨rfl, rfl, rfl, rfl, rfl, rfl, rfl, rfl, rfl, rfl, trivial⟩ Mem.keep
              · by_cases hc3 : l.getD i 0 = minGe n l
                · rw [if_neg hc2, if_pos hc3] at hs
                  have hnl := numL_len bi 20 dl 36
                  (refine r_ltF rfl rfl rfl (by omega) <| r_nx h158 <| c_cF rfl <| c_sk <| WE.then_n h156 <| c_sq fun k165 h165 => c_rg <| r_mv rfl rfl <| r_cv rfl (cv_int (k' := .i64) rfl Tryz.underlying3 (w64 (by omega))) rfl <| r_mv rfl rfl <| r_eqT rfl rfl rfl (by omega) <| r_nx h165 <| c_cT rfl <| c_sq fun k167 h167 => c_rg <| r_mv rfl rfl <| r_mv rfl rfl ?_; rotate_left)
                  (rotate_left)
                  refine WX.pure rfl rfl (number_spec dl bi (by omega) (by omega) _ _) rfl rfl ?_
                  refine WX.call (m1 := [BB u g p o, OwnB p o]) (m2 := []) rfl rfl rfl (writeString_spec u g p o (strOf (numP dl bi)) (by show o.length + (numP dl bi).length ≤ _; unfold numP; omega) _ _) rfl rfl (fun p2 _ => ?_)
                  have hne : o ++ numP dl bi ≠ [] := by
                    unfold numP
                    rw [numL]
                    split <;> simp
                  by_cases hbq : hh = (basics l).length
                  · rw [decide_eq_true hbq] at hs
                    (refine r_nx h167 <| c_sq fun k174 h174 => c_rg <| r_mv rfl rfl <| r_mv rfl rfl <| r_ad rfl rfl rfl (wadd64 (by omega)) <| r_mv rfl rfl <| r_mv rfl rfl <| r_eqT rfl rfl rfl (by omega) ?_; rotate_left)
                    refine WX.pure rfl rfl (adapt_spec dl ((hh : Int) + 1) true (by omega) _ _) rfl rfl ?_
                    (refine r_as rfl rfl <| r_nx h174 <| c_sq fun k176 h176 => c_rg <| r_as rfl rfl <| r_nx h176 <| c_rg <| r_mv rfl rfl <| r_ad rfl rfl rfl (wadd64 (by omega)) <| r_as rfl rfl <| r_nl <| WE.blk_n <| WE.then_n h152 <| c_rg <| r_ad rfl rfl rfl (wadd64 (by omega)) <| r_mv rfl rfl <| r_nl ?_; rotate_left)
                    exact WE.back (i + 1, (0, adaptP dl ((hh : Int) + 1) true, hh + 1, o ++ numP dl bi), true, p2) ⟨by dsimp only; omega, hs, fun h => absurd h hne⟩ (by dsimp only; omega) ⟨rfl, rfl, rfl, rfl, rfl, rfl, rfl, rfl, rfl, rfl, trivial⟩ Mem.keep
                  · rw [decide_eq_false hbq] at hs
                    (refine r_nx h167 <| c_sq fun k174 h174 => c_rg <| r_mv rfl rfl <| r_mv rfl rfl <| r_ad rfl rfl rfl (wadd64 (by omega)) <| r_mv rfl rfl <| r_mv rfl rfl <| r_eqF rfl rfl rfl (by omega) ?_; rotate_left)
                    refine WX.pure rfl rfl (adapt_spec dl ((hh : Int) + 1) false (by omega) _ _) rfl rfl ?_
                    (refine r_as rfl rfl <| r_nx h174 <| c_sq fun k176 h176 => c_rg <| r_as rfl rfl <| r_nx h176 <| c_rg <| r_mv rfl rfl <| r_ad rfl rfl rfl (wadd64 (by omega)) <| r_as rfl rfl <| r_nl <| WE.blk_n <| WE.then_n h152 <| c_rg <| r_ad rfl rfl rfl (wadd64 (by omega)) <| r_mv rfl rfl <| r_nl ?_; rotate_left)
                    exact WE.back (i + 1, (0, adaptP dl ((hh : Int) + 1) false, hh + 1, o ++ numP dl bi), true, p2) ⟨by dsimp only; omega, hs, fun h => absurd h hne⟩ (by dsimp only; omega) ⟨rfl, rfl, rfl, rfl, rfl, rfl, rfl, rfl, rfl, rfl, trivial⟩ Mem.keep
                · rw [if_neg hc2, if_neg hc3] at hs
                  (refine r_ltF rfl rfl rfl (by omega) <| r_nx h158 <| c_cF rfl <| c_sk <| WE.then_n h156 <| c_sq fun k164 h164 => c_rg <| r_mv rfl rfl <| r_cv rfl (cv_int (k' := .i64) rfl Tryz.underlying3 (w64 (by omega))) rfl <| r_mv rfl rfl <| r_eqF rfl rfl rfl (by omega) <| r_nx h164 <| c_cF rfl <| c_sk <| WE.blk_n <| WE.then_n h152 <| c_rg <| r_ad rfl rfl rfl (wadd64 (by omega)) <| r_mv rfl rfl <| r_nl ?_; rotate_left)
                  (rotate_left)
                  exact WE.back (i + 1, (dl, bi, hh, o), u, p) ⟨by dsimp only; omega, hs, hp⟩ (by dsimp only; omega) ⟨rfl, rfl, rfl, rfl, rfl, rfl, rfl, rfl, rfl, rfl, trivial⟩ Mem.keep
            · have hta : l.take i = l := List.take_of_length_le (by omega)
              rw [hta] at he p3 p4 hcp
              have hR : encRound l (basics l).length n (delta, bias, h, out) = (dl, bi, hh, o) := by rw [← he, hs0]; rfl
              rw [hR] at e1
              have hpos : 0 < l.countP (fun c => decide (c = minGe n l)) := List.countP_pos_iff.2 ⟨_, hm1, by simp⟩
              have hbs := below_succ (minGe n l) l
              rw [below_min hmx hm2, ← e3] at hbs
              have hil : (i : Int) = l.length := by omega
              (refine c_sq fun k151 h151 => c_rg <| r_ltF rfl rfl rfl (by omega) <| r_nx h151 <| c_sq fun k153 h153 => c_cF rfl <| c_ex <| WE.then_x <| WE.then_x <| WE.blk_x <| WE.then_n h114 <| c_sq fun k155 h155 => c_rg <| r_mv rfl rfl <| r_ad rfl rfl rfl (wadd64 (by omega)) <| r_as rfl rfl <| r_nx h155 <| c_rg <| r_mv rfl rfl <| r_ad rfl rfl rfl (wadd64 (by omega)) <| r_as rfl rfl <| r_nl <| WE.blk_n ?_; rotate_left)
              exact WE.back (f, minGe n l + 1, (dl + 1, bi, hh, o), u, p) ⟨e1, by dsimp only; omega, by dsimp only; omega, by dsimp only; omega, by dsimp only; omega, p2, by dsimp only; omega, hp⟩ (by dsimp only; omega) ⟨rfl, rfl, rfl, rfl, rfl, rfl, rfl, trivial⟩ Mem.keep
      · have hfin : encOut l (basics l).length f n (delta, bias, h, out) = out := by cases f with | zero => rfl | succ f => rw [encOut, if_neg hlt]
        rw [hfin] at e1
        (refine c_sq fun k81 h81 => c_sq fun k83 h83 => c_rg <| r_mv rfl rfl <| r_mv rfl rfl <| r_ls Tryz.underlying22 rfl rfl <| r_ltF rfl rfl rfl (by omega) <| r_nx h83 <| c_cF rfl <| c_ex <| WE.then_x <| WE.then_x <| WE.blk_x <| WE.then_n h55 <| c_sq fun k85 h85 => c_rg ?_; rotate_left)
        refine WX.call (m1 := [BB u g p out, OwnB p out]) (m2 := []) rfl rfl rfl (bString_spec u g p out (by omega) e8 _ _) rfl rfl (fun _ _ => ?_)
        rw [e1]
        (refine r_as rfl rfl <| r_as rfl rfl <| r_nx h85 <| c_rt ?_; rotate_left)
        exact WE.ret2 () rfl rfl rfl rfl rfl trivial Mem.keep
end Go.Proofs.YthnabbidlmihbaaGreatDoor

/- The document's Punycode told: numbers by digits, a list of code points: the walks. -/
set_option linter.unusedVariables false
namespace Go.Proofs.YthnabbidlmihbaaGreatDoor
open Go.RowKit Go.Gp

set_option maxRecDepth 100000 in
theorem rtell_spec (q bias : Int) (hq : 0 ≤ q ∧ q ≤ 4000000000000000000) (hb : 0 ≤ bias ∧ bias ≤ 1000) (w0 : World) (m0 : List Res) :
    Ct (α := Option Addr × Nat) Tryz.prog 55 [.int .i64 q, .int .i64 bias] w0 [] m0 (fun _ => True) (fun p => .slice p.1 (numP q bias).length p.2) (fun p => [OwnB p (numP q bias)]) := by
  have hf : (10 : Int) ^ 19 = 10000000000000000000 := by decide +kernel
  refine Ct.of Tryz.func55 rfl (by kernel_rfl) rfl ?_
  (refine c_sq fun k8 h8 => c_rg <| r_as rfl rfl <| r_nx h8 <| c_sq fun k10 h10 => c_rg <| r_as rfl rfl <| r_nx h10 <| c_sq fun k12 h12 => c_rg <| r_as rfl rfl <| r_nx h12 <| c_sq fun k14 h14 => c_bl ?_; rotate_left)
  refine WC.loop (α := Nat × Int × Int × List UInt8 × (Option Addr × Nat)) (fun x => [(0, .int .i64 x.2.1), (1, .int .i64 bias), (6, .int .i64 x.2.2.1), (5, .slice x.2.2.2.2.1 x.2.2.2.1.length x.2.2.2.2.2)])
    (fun x => [OwnB x.2.2.2.2 x.2.2.2.1])
    (fun x => x.2.2.2.1 ++ numL bias (x.1 + 1) x.2.1 x.2.2.1 = numP q bias ∧ (0 ≤ x.2.1 ∧ x.2.1 ≤ 4000000000000000000) ∧ x.2.1 < 10 ^ x.1 ∧ (0 ≤ x.2.2.1 ∧ x.2.2.1 + 36 * x.1 ≤ 720) ∧ x.2.2.2.1.length + x.1 ≤ 19) (fun x => x.1)
    (19, q, 36, [], (none, 0)) ⟨rfl, by dsimp only; omega, by dsimp only; omega, by dsimp only; omega, by simp⟩ ⟨rfl, rfl, rfl, rfl, trivial⟩ (Mem.nilOwn _ _) ?_
  rintro ⟨f, q1, k, acc, p⟩ ⟨e, h1, h2, h3, h4⟩
  dsimp only at e h1 h2 h3 h4 ⊢
  have ht := thrP_bd k bias
  (refine c_sq fun k27 h27 => c_sq fun k29 h29 => c_rg <| r_mv rfl rfl <| r_mv rfl rfl <| r_mv rfl rfl ?_; rotate_left)
  refine WX.pure rfl rfl (rthr_spec k bias (by omega) _ _) rfl rfl ?_
  by_cases hlt : q1 < thrP k bias
  · rw [numL, if_pos hlt] at e
    (refine r_geF rfl rfl rfl (by omega) <| r_nx h29 <| c_cF rfl <| c_ex <| WE.then_x <| WE.then_x <| WE.blk_x <| WE.then_n h14 <| c_sq fun k34 h34 => c_rg <| r_mv rfl rfl <| r_mv rfl rfl ?_; rotate_left)
    refine WX.pure rfl rfl (rdigit_spec q1 (by omega) (by omega) _ _) rfl rfl ?_
    (refine r_bo Tryz.underlying69 rfl (fun _ => by kernel_rfl) rfl rfl rfl (fun _ => ?_); rotate_left)
    refine r_am (xs := acc) (ys := [dig q1]) 1 (z := .int .u8 0) (by_ := 1) (f := fun b : UInt8 => .int .u8 b.toNat) Tryz.underlying69 (by kernel_rfl) rfl rfl rfl rfl (Rd.own 0 rfl) rfl (fun _ => rfl) (by omega) rfl (fun p2 _ => ?_)
    (refine r_as rfl rfl <| r_nx h34 <| c_rt ?_; rotate_left)
    exact WE.ret1 p2 rfl rfl (by rw [← e]; rfl) trivial (by rw [← e]; exact Mem.pick [1] (by decide) rfl)
  · cases f with
    | zero => simp only [Int.pow_zero] at h2; omega
    | succ f =>
      have r1 : 0 ≤ (q1 - thrP k bias) % (36 - thrP k bias) := Int.emod_nonneg _ (by omega)
      have r2 : (q1 - thrP k bias) % (36 - thrP k bias) < 36 - thrP k bias := Int.emod_lt_of_pos _ (by omega)
      have r3 : 0 ≤ (q1 - thrP k bias) / (36 - thrP k bias) := Int.ediv_nonneg (by omega) (by omega)
      have r4 : (q1 - thrP k bias) / (36 - thrP k bias) < 10 ^ f := by
        rw [Int.pow_succ] at h2
        refine Int.ediv_lt_of_lt_mul (by omega) ?_
        have h0 : (0 : Int) < 10 ^ f := Int.pow_pos (by decide)
        have : 10 ^ f * 10 ≤ 10 ^ f * (36 - thrP k bias) := Int.mul_le_mul_of_nonneg_left (by omega) (by omega)
        omega
      have r5 : (q1 - thrP k bias) / (36 - thrP k bias) ≤ q1 - thrP k bias := Int.ediv_le_self _ (by omega)
      (refine r_geT rfl rfl rfl (by omega) <| r_nx h29 <| c_cT rfl <| c_sk <| WE.then_n h27 <| c_bl <| c_sq fun k44 h44 => c_rg <| r_mv rfl rfl <| r_mv rfl rfl ?_; rotate_left)
      refine WX.pure rfl rfl (rthr_spec k bias (by omega) _ _) rfl rfl ?_
      (refine r_as rfl rfl <| r_nx h44 <| c_sq fun k46 h46 => c_rg <| r_mv rfl rfl <| r_mv rfl rfl <| r_mv rfl rfl <| r_mv rfl rfl <| r_su rfl rfl rfl (wsub64 (by omega)) <| r_mv rfl rfl <| r_su rfl rfl rfl (wsub64 (by omega)) <| r_re rfl rfl rfl (by omega) (wrem (by omega)) <| r_ad rfl rfl rfl (wadd64 (by omega)) ?_; rotate_left)
      refine WX.pure rfl rfl (rdigit_spec (thrP k bias + (q1 - thrP k bias) % (36 - thrP k bias)) (by omega) (by omega) _ _) rfl rfl ?_
      (refine r_bo Tryz.underlying69 rfl (fun _ => by kernel_rfl) rfl rfl rfl (fun _ => ?_); rotate_left)
      refine r_am (xs := acc) (ys := [dig (thrP k bias + (q1 - thrP k bias) % (36 - thrP k bias))]) 1 (z := .int .u8 0) (by_ := 1) (f := fun b : UInt8 => .int .u8 b.toNat) Tryz.underlying69 (by kernel_rfl) rfl rfl rfl rfl (Rd.own 0 rfl) rfl (fun _ => rfl) (by omega) rfl (fun p2 _ => ?_)
      (refine r_as rfl rfl <| r_nx h46 <| c_sq fun k51 h51 => c_rg <| r_mv rfl rfl <| r_mv rfl rfl <| r_su rfl rfl rfl (wsub64 (by omega)) <| r_mv rfl rfl <| r_su rfl rfl rfl (wsub64 (by omega)) <| r_qu rfl rfl rfl (by omega) (wquo64 (by omega)) <| r_as rfl rfl <| r_nx h51 <| c_rg <| r_mv rfl rfl <| r_ad rfl rfl rfl (wadd64 (by omega)) <| r_as rfl rfl <| r_nl <| WE.blk_n ?_; rotate_left)
      exact WE.back (f, (q1 - thrP k bias) / (36 - thrP k bias), k + 36, acc ++ [dig (thrP k bias + (q1 - thrP k bias) % (36 - thrP k bias))], p2) ⟨by
        dsimp only
        rw [numL, if_neg hlt] at e
        rw [List.append_assoc]
        exact e, by dsimp only; omega, r4, by dsimp only; omega, by simp; omega⟩ (by dsimp only; omega) ⟨rfl, rfl, rfl, rfl, trivial⟩ (Mem.pick [1] (by decide) rfl)

/-- string(b). -/
theorem conv_bytes {A : Option Addr} {c : Nat} {l : List UInt8} {w0 : World} {m : List Res} (hA : Rd w0 m A (bys l)) (w : World) (hw : Mem w0 m w) : (convert 69 9 (.slice A l.length c)).run Tryz.prog w = .ok (.string (strOf l)) w := by
  unfold Rd at hA
  cases A with
  | none =>
    have : l = [] := by
      cases l with
      | nil => rfl
      | cons x r => obtain ⟨a, h, _⟩ := hA w hw 0 (.int .u8 x.toNat) rfl; cases h
    subst this
    exact Go.Lib.run_convert_nil_bytes w _ _ 5 _ Tryz.underlying69 Tryz.underlying5 Tryz.underlying9
  | some a =>
    exact run_convert_bytes_back w _ _ 5 a c l Tryz.underlying69 Tryz.underlying5 Tryz.underlying9 (fun j hj => by
      obtain ⟨a', h1, h2⟩ := hA w hw j (.int .u8 l[j].toNat) (by simp [hj])
      injection h1 with h1
      subst h1
      exact h2)

set_option maxRecDepth 100000 in
theorem rencode_spec (A : Option Addr) (c : Nat) (l : List Int) (hn : l.length ≤ 65536) (hl : Sc l) (w0 : World) (m0 : List Res) (hA : Rd w0 m0 A (runes l)) :
    PureC Tryz.prog 27 [.slice A l.length c] w0 m0 (.tuple #[.string (strOf (encP l)), .int .i64 0]) := by
  have hb32 : ∀ x ∈ l, -2147483648 ≤ x ∧ x ≤ 2147483647 := fun x hx => by have := (hl x hx).1; omega
  refine Ct.of Tryz.func27 rfl (by kernel_rfl) rfl ?_
  (refine c_sq fun k10 h10 => c_rg <| r_as rfl rfl <| r_as rfl rfl <| r_nx h10 <| c_sq fun k12 h12 => c_sq fun k14 h14 => c_rg <| r_mv rfl rfl <| r_ls Tryz.underlying22 rfl rfl <| r_gtF rfl rfl rfl (by omega) <| r_nx h14 <| c_cF rfl <| c_sk <| WE.then_n h12 <| c_sq fun k16 h16 => c_rg <| r_as rfl rfl <| r_nx h16 <| c_sq fun k18 h18 => c_sq fun k20 h20 => c_rg <| r_as rfl rfl <| r_nx h20 <| c_bl ?_; rotate_left)
  refine WC.loop (α := Nat × (Option Addr × Nat)) (fun x => [(0, .slice A l.length c), (5, .int .i64 x.1), (4, .slice x.2.1 (basics (l.take x.1)).length x.2.2)]) (fun x => [OwnB x.2 (basics (l.take x.1))]) (fun x => x.1 ≤ l.length ∧ (basics (l.take x.1)).length ≤ x.1) (fun x => l.length - x.1) (0, (none, 0)) ⟨by simp, by simp [basics]⟩ ⟨rfl, rfl, rfl, trivial⟩ (Mem.nilOwn _ _) ?_
  rintro ⟨i, p⟩ ⟨hi, hbl⟩
  dsimp only at hi hbl ⊢
  by_cases hlt : i < l.length
  · have hc := hl.getD hlt
    have hsc : ∀ mm, PureC Tryz.prog 22 [.int .i32 (l.getD i 0)] w0 mm (.bool true) := fun mm => by have := scalar_spec (l.getD i 0) w0 mm; rwa [decide_eq_true hc] at this
    have hs := basics_snoc (l.take i) (l.getD i 0)
    rw [← take_next hlt] at hs
    (refine c_sq fun k31 h31 => c_sq fun k33 h33 => c_rg <| r_mv rfl rfl <| r_mv rfl rfl <| r_ls Tryz.underlying22 rfl rfl <| r_ltT rfl rfl rfl (by omega) <| r_nx h33 <| c_cT rfl <| c_sk <| WE.then_n h31 <| c_sq fun k35 h35 => c_bl <| c_sq fun k37 h37 => c_sq fun k39 h39 => c_rg <| r_mv rfl rfl <| r_mv rfl rfl <| r_im (hA.app _) Tryz.underlying22 (by kernel_rfl) rfl rfl rfl rfl (by omega) (by omega) <| r_li (i) (hA.app _) Tryz.underlying21 rfl rfl rfl (by omega) ?_; rotate_left)
    refine WX.pure rfl rfl (hsc _) rfl rfl ?_
    by_cases hc2 : l.getD i 0 < 128
    · rw [if_pos hc2] at hs
      have hb := b8_toNat hc.1.1 (by omega)
      (refine r_no rfl rfl rfl <| r_nx h39 <| c_cF rfl <| c_sk <| WE.then_n h37 <| c_sq fun k44 h44 => c_rg <| r_mv rfl rfl <| r_mv rfl rfl <| r_im (hA.app _) Tryz.underlying22 (by kernel_rfl) rfl rfl rfl rfl (by omega) (by omega) <| r_li (i) (hA.app _) Tryz.underlying21 rfl rfl rfl (by omega) <| r_ltT rfl rfl rfl (by omega) <| r_nx h44 <| c_cT rfl <| c_rg <| r_mv rfl rfl <| r_mv rfl rfl <| r_mv rfl rfl <| r_im (hA.app _) Tryz.underlying22 (by kernel_rfl) rfl rfl rfl rfl (by omega) (by omega) <| r_li (i) (hA.app _) Tryz.underlying21 rfl rfl rfl (by omega) <| r_cv rfl (cv_int (k' := .u8) rfl Tryz.underlying5 (w8 (by omega))) rfl <| r_bo Tryz.underlying69 rfl (fun _ => by kernel_rfl) rfl rfl rfl (fun _ => ?_); rotate_left)
      rw [← hb]
      (rotate_left)
      refine r_am (xs := basics (l.take i)) (ys := [b8 (l.getD i 0)]) 1 (z := .int .u8 0) (by_ := 1) (f := fun b : UInt8 => .int .u8 b.toNat) Tryz.underlying69 (by kernel_rfl) rfl rfl rfl rfl (Rd.own 0 rfl) rfl (fun _ => rfl) (by omega) rfl (fun p2 _ => ?_)
      rw [← hs]
      (refine r_as rfl rfl <| r_nl <| WE.blk_n <| WE.then_n h35 <| c_rg <| r_mv rfl rfl <| r_ad rfl rfl rfl (wadd64 (by omega)) <| r_as rfl rfl <| r_nl ?_; rotate_left)
      exact WE.back (i + 1, p2) ⟨by dsimp only; omega, by dsimp only; rw [hs]; simp; omega⟩ (by dsimp only; omega) ⟨rfl, rfl, rfl, trivial⟩ (Mem.pick [1] (by decide) rfl)
    · rw [if_neg hc2] at hs
      (refine r_no rfl rfl rfl <| r_nx h39 <| c_cF rfl <| c_sk <| WE.then_n h37 <| c_sq fun k43 h43 => c_rg <| r_mv rfl rfl <| r_mv rfl rfl <| r_im (hA.app _) Tryz.underlying22 (by kernel_rfl) rfl rfl rfl rfl (by omega) (by omega) <| r_li (i) (hA.app _) Tryz.underlying21 rfl rfl rfl (by omega) <| r_ltF rfl rfl rfl (by omega) <| r_nx h43 <| c_cF rfl <| c_sk <| WE.blk_n <| WE.then_n h35 <| c_rg <| r_mv rfl rfl <| r_ad rfl rfl rfl (wadd64 (by omega)) <| r_as rfl rfl <| r_nl ?_; rotate_left)
      exact WE.back (i + 1, p) ⟨by dsimp only; omega, by dsimp only; rw [hs]; omega⟩ (by dsimp only; omega) ⟨rfl, rfl, by dsimp only; rw [hs]; rfl, trivial⟩ (by dsimp only; rw [hs]; exact Mem.keep)
  · have e : l.take i = l := List.take_of_length_le (by omega)
    rw [e] at hbl ⊢
    obtain ⟨out0, ho⟩ : ∃ o, o = (if 0 < (basics l).length then basics l ++ [45] else []) := ⟨_, rfl⟩
    have hcnt := basics_length l
    have hcl : (basics l).length ≤ l.length := by omega
    have hol : out0.length ≤ (basics l).length + 1 := by rw [ho]; split <;> simp
    have hE : encP l = encOut l (basics l).length (l.length + 1) 128 (0, 72, (basics l).length, out0) := by rw [ho]; rfl
    (refine c_sq fun k35 h35 => ?_)
    (refine c_sq fun k37 h37 => c_rg <| r_mv rfl rfl <| r_mv rfl rfl <| r_ls Tryz.underlying22 rfl rfl <| r_ltF rfl rfl rfl (by omega) <| r_nx h37 <| c_cF rfl <| c_ex <| WE.then_x <| WE.then_x <| WE.blk_x <| WE.then_n h18 <| c_sq fun k39 h39 => c_rg <| r_mv rfl rfl <| r_ls Tryz.underlying69 rfl rfl <| r_as rfl rfl <| r_nx h39 ?_; rotate_left)
    refine WC.cut (α := Option Addr × Nat) (fun x => [(0, .slice A l.length c), (4, .slice x.1 out0.length x.2), (6, .int .i64 (basics l).length)]) (fun x => [OwnB x out0]) (fun _ => True) ?_ ?_
    · by_cases h0 : 0 < (basics l).length
      · rw [if_pos h0] at ho
        subst ho
        (refine c_sq fun k45 h45 => c_rg <| r_mv rfl rfl <| r_gtT rfl rfl rfl (by omega) <| r_nx h45 <| c_cT rfl <| c_rg <| r_mv rfl rfl <| r_bo Tryz.underlying69 rfl (fun _ => by kernel_rfl) rfl rfl rfl (fun _ => ?_); rotate_left)
        refine r_am (xs := basics l) (ys := ([45] : List UInt8)) 1 (z := .int .u8 0) (by_ := 1) (f := fun b : UInt8 => .int .u8 b.toNat) Tryz.underlying69 (by kernel_rfl) rfl rfl rfl rfl (Rd.own 0 rfl) rfl (fun _ => rfl) (by omega) rfl (fun p2 _ => ?_)
        (refine r_as rfl rfl <| r_nl ?_; rotate_left)
        exact WE.met p2 trivial ⟨rfl, rfl, rfl, trivial⟩ (Mem.pick [1] (by decide) rfl)
      · have hb0 : basics l = [] := List.eq_nil_of_length_eq_zero (by omega)
        rw [if_neg h0] at ho
        subst ho
        (refine c_sq fun k46 h46 => c_rg <| r_mv rfl rfl <| r_gtF rfl rfl rfl (by omega) <| r_nx h46 <| c_cF rfl <| c_sk ?_; rotate_left)
        exact WE.met p trivial ⟨rfl, by rw [hb0]; rfl, rfl, trivial⟩ (by rw [hb0]; exact Mem.keep)
    · clear hbl hlt hi e ho
      rintro p _
      have hmx : ∀ x ∈ l, x ≤ 1114111 := fun x hx => (hl x hx).1.2
      (refine c_sq fun k44 h44 => c_rg <| r_as rfl rfl <| r_nx h44 <| c_sq fun k46 h46 => c_rg <| r_as rfl rfl <| r_nx h46 <| c_sq fun k48 h48 => c_rg <| r_as rfl rfl <| r_nx h48 <| c_sq fun k50 h50 => c_rg <| r_mv rfl rfl <| r_as rfl rfl <| r_nx h50 <| c_sq fun k52 h52 => c_bl ?_; rotate_left)
      refine WC.loop (α := Nat × Int × ES × (Option Addr × Nat)) (fun x => [(0, .slice A l.length c), (4, .slice x.2.2.2.1 x.2.2.1.2.2.2.length x.2.2.2.2), (6, .int .i64 (basics l).length), (7, .int .i64 x.2.1), (8, .int .i64 x.2.2.1.1), (9, .int .i64 x.2.2.1.2.1), (10, .int .i64 x.2.2.1.2.2.1)])
        (fun x => [OwnB x.2.2.2 x.2.2.1.2.2.2])
        (fun x => encOut l (basics l).length x.1 x.2.1 x.2.2.1 = encP l ∧ l.length < x.1 + x.2.2.1.2.2.1 ∧ x.2.2.1.2.2.1 = below x.2.1 l ∧ (128 ≤ x.2.1 ∧ x.2.1 ≤ 1114112) ∧ (0 ≤ x.2.2.1.1 ∧ x.2.2.1.1 ≤ x.2.1 * (l.length + 1)) ∧ (0 ≤ x.2.2.1.2.1 ∧ x.2.2.1.2.1 ≤ 1000) ∧ x.2.2.1.2.2.2.length ≤ l.length + 1 + 20 * x.2.2.1.2.2.1)
        (fun x => l.length - x.2.2.1.2.2.1) (l.length + 1, 128, (0, 72, (basics l).length, out0), p)
        ⟨hE.symm, by dsimp only; omega, hcnt, by dsimp only; omega, by dsimp only; omega, by dsimp only; omega, by dsimp only; omega⟩ ⟨rfl, rfl, rfl, rfl, rfl, rfl, rfl, trivial⟩ Mem.keep ?_
      clear p hol hE out0
      rintro ⟨f, n, ⟨delta, bias, h, out⟩, p⟩ ⟨e1, e2, e3, e4, e5, e6, e7⟩
      dsimp only at e1 e2 e3 e4 e5 e6 e7 ⊢
      have hbl2 : below n l ≤ l.length := List.countP_le_length
      by_cases hlt : h < l.length
      · cases f with
        | zero => omega
        | succ f =>
          rw [encOut, if_pos hlt] at e1
          obtain ⟨hm1, hm2⟩ := minGe_mem hmx (n := n) (by omega)
          have hmb := hmx _ hm1
          have hle : leastP n l = minGe n l := by
            rcases least_law (n := n) l hmx with ⟨_, h1, _⟩ | ⟨h1, _⟩
            · have := h1 _ hm1; omega
            · exact h1
          have q0 : 0 ≤ (minGe n l - n) * ((h : Int) + 1) := Int.mul_nonneg (by omega) (by omega)
          have q1 : (minGe n l - n) * ((h : Int) + 1) ≤ (minGe n l - n) * ((l.length : Int) + 1) := Int.mul_le_mul_of_nonneg_left (by omega) (by omega)
          have q2 : n * ((l.length : Int) + 1) + (minGe n l - n) * ((l.length : Int) + 1) = minGe n l * ((l.length : Int) + 1) := by rw [← Int.add_mul]; congr 1; omega
          have q3 : minGe n l * ((l.length : Int) + 1) ≤ 1114111 * 65537 := Int.mul_le_mul hmb (by omega) (by omega) (by omega)
          have q4 : 0 ≤ n * ((l.length : Int) + 1) := Int.mul_nonneg (by omega) (by omega)
          have q5 : (minGe n l + 1) * ((l.length : Int) + 1) = minGe n l * ((l.length : Int) + 1) + ((l.length : Int) + 1) := by rw [Int.add_mul, Int.one_mul]
          (refine c_sq fun k86 h86 => c_sq fun k88 h88 => c_rg <| r_mv rfl rfl <| r_mv rfl rfl <| r_ls Tryz.underlying22 rfl rfl <| r_ltT rfl rfl rfl (by omega) <| r_nx h88 <| c_cT rfl <| c_sk <| WE.then_n h86 <| c_bl <| c_sq fun k90 h90 => c_rg <| r_mv rfl rfl <| r_mv rfl rfl ?_; rotate_left)
          refine WX.pure rfl rfl (rleast_spec A c l n (by omega) hb32 _ _ (hA.app _)) rfl rfl ?_
          rw [hle]
          (refine r_as rfl rfl <| r_nx h90 <| c_sq fun k92 h92 => c_rg <| r_mv rfl rfl <| r_mv rfl rfl <| r_mv rfl rfl <| r_su rfl rfl rfl (wsub64 (by omega)) <| r_mv rfl rfl <| r_ad rfl rfl rfl (wadd64 (by omega)) <| r_mu rfl rfl rfl (wmul64 (by omega)) <| r_ad rfl rfl rfl (wadd64 (by omega)) <| r_as rfl rfl <| r_nx h92 <| c_sq fun k94 h94 => c_rg <| r_mv rfl rfl <| r_as rfl rfl <| r_nx h94 <| c_sq fun k96 h96 => c_sq fun k98 h98 => c_rg <| r_as rfl rfl <| r_nx h98 <| c_bl ?_; rotate_left)
          obtain ⟨s0, hs0⟩ : ∃ s0 : ES, s0 = (delta + (minGe n l - n) * ((h : Int) + 1), bias, h, out) := ⟨_, rfl⟩
          have hd0 : s0.1 = delta + (minGe n l - n) * ((h : Int) + 1) := by rw [hs0]
          have hb0 : s0.2.1 = bias := by rw [hs0]
          have hh0 : s0.2.2.1 = h := by rw [hs0]
          have ho0 : s0.2.2.2 = out := by rw [hs0]
          refine WC.loop (α := Nat × ES × (Option Addr × Nat)) (fun x => [(0, .slice A l.length c), (4, .slice x.2.2.1 x.2.1.2.2.2.length x.2.2.2), (6, .int .i64 (basics l).length), (7, .int .i64 (minGe n l)), (8, .int .i64 x.2.1.1), (9, .int .i64 x.2.1.2.1), (10, .int .i64 x.2.1.2.2.1), (12, .int .i64 x.1)])
            (fun x => [OwnB x.2.2 x.2.1.2.2.2]) (fun x => x.1 ≤ l.length ∧ encIn (minGe n l) (basics l).length (l.take x.1) s0 = x.2.1) (fun x => l.length - x.1)
            (0, (delta + (minGe n l - n) * ((h : Int) + 1), bias, h, out), p) ⟨by simp, by rw [hs0]; rfl⟩ ⟨rfl, rfl, rfl, rfl, rfl, rfl, rfl, rfl, trivial⟩ Mem.keep ?_
          rintro ⟨i, ⟨dl, bi, hh, o⟩, p⟩ ⟨hi, he⟩
          dsimp only at hi he ⊢
          have htl : (l.take i).length = i := by simp; omega
          have pr := encIn_props (minGe n l) (basics l).length s0 (by omega) (by omega) i (l.take i) htl (by omega)
          rw [he] at pr
          obtain ⟨p1, p2, p3, p4⟩ := pr
          have hcp : (l.take i).countP (fun c => decide (c = minGe n l)) ≤ (l.take i).length := List.countP_le_length
          dsimp only at p1 p2 p3 p4
          rw [ho0] at p4
          rw [hh0] at p3
          by_cases hli : i < l.length
          · have hc := hl.getD hli
            have hs := encIn_snoc (minGe n l) (basics l).length (l.take i) (l.getD i 0) s0
            rw [← take_next hli, he] at hs
            unfold encStep at hs
            dsimp only at hs
            by_cases hc2 : l.getD i 0 < minGe n l
            · rw [if_pos hc2, if_neg (by omega)] at hs
              (refine c_sq fun k130 h130 => c_sq fun k132 h132 => c_rg <| r_mv rfl rfl <| r_mv rfl rfl <| r_ls Tryz.underlying22 rfl rfl <| r_ltT rfl rfl rfl (by omega) <| r_nx h132 <| c_cT rfl <| c_sk <| WE.then_n h130 <| c_sq fun k134 h134 => c_bl <| c_sq fun k136 h136 => c_sq fun k138 h138 => c_rg <| r_mv rfl rfl <| r_mv rfl rfl <| r_im (hA.app _) Tryz.underlying22 (by kernel_rfl) rfl rfl rfl rfl (by omega) (by omega) <| r_li (i) (hA.app _) Tryz.underlying21 rfl rfl rfl (by omega) <| r_cv rfl (cv_int (k' := .i64) rfl Tryz.underlying3 (w64 (by omega))) rfl <| r_mv rfl rfl <| r_ltT rfl rfl rfl (by omega) <| r_nx h138 <| c_cT rfl <| c_rg <| r_mv rfl rfl <| r_ad rfl rfl rfl (wadd64 (by omega)) <| r_as rfl rfl <| r_nx h136 <| c_sq fun k140 h140 => c_rg <| r_mv rfl rfl <| r_mv rfl rfl <| r_im (hA.app _) Tryz.underlying22 (by kernel_rfl) rfl rfl rfl rfl (by omega) (by omega) <| r_li (i) (hA.app _) Tryz.underlying21 rfl rfl rfl (by omega) <| r_cv rfl (cv_int (k' := .i64) rfl Tryz.underlying3 (w64 (by omega))) rfl <| r_mv rfl rfl <| r_eqF rfl rfl rfl (by omega) <| r_nx h140 <| c_cF rfl <| c_sk <| WE.blk_n <| WE.then_n h134 <| c_rg <| r_mv rfl rfl <| r_ad rfl rfl rfl (wadd64 (by omega)) <| r_as rfl rfl <| r_nl ?_; rotate_left)
              exact WE.back (i + 1, (dl + 1, bi, hh, o), p) ⟨by dsimp only; omega, hs⟩ (by dsimp only; omega) ⟨rfl, rfl, rfl, rfl, rfl, rfl, rfl, rfl, trivial⟩ Mem.keep
            · by_cases hc3 : l.getD i 0 = minGe n l
              · rw [if_neg hc2, if_pos hc3] at hs
                have hnl := numL_len bi 20 dl 36
                (refine c_sq fun k132 h132 => c_sq fun k134 h134 => c_rg <| r_mv rfl rfl <| r_mv rfl rfl <| r_ls Tryz.underlying22 rfl rfl <| r_ltT rfl rfl rfl (by omega) <| r_nx h134 <| c_cT rfl <| c_sk <| WE.then_n h132 <| c_sq fun k136 h136 => c_bl <| c_sq fun k138 h138 => c_sq fun k140 h140 => c_rg <| r_mv rfl rfl <| r_mv rfl rfl <| r_im (hA.app _) Tryz.underlying22 (by kernel_rfl) rfl rfl rfl rfl (by omega) (by omega) <| r_li (i) (hA.app _) Tryz.underlying21 rfl rfl rfl (by omega) <| r_cv rfl (cv_int (k' := .i64) rfl Tryz.underlying3 (w64 (by omega))) rfl <| r_mv rfl rfl <| r_ltF rfl rfl rfl (by omega) <| r_nx h140 <| c_cF rfl <| c_sk <| WE.then_n h138 <| c_sq fun k142 h142 => c_rg <| r_mv rfl rfl <| r_mv rfl rfl <| r_im (hA.app _) Tryz.underlying22 (by kernel_rfl) rfl rfl rfl rfl (by omega) (by omega) <| r_li (i) (hA.app _) Tryz.underlying21 rfl rfl rfl (by omega) <| r_cv rfl (cv_int (k' := .i64) rfl Tryz.underlying3 (w64 (by omega))) rfl <| r_mv rfl rfl <| r_eqT rfl rfl rfl (by omega) <| r_nx h142 <| c_cT rfl <| c_sq fun k144 h144 => c_rg <| r_mv rfl rfl <| r_mv rfl rfl <| r_mv rfl rfl ?_; rotate_left)
                refine WX.call (m1 := []) (m2 := _) rfl rfl rfl (rtell_spec dl bi (by omega) (by omega) _ _) rfl rfl (fun q _ => ?_)
                refine r_am (xs := o) (ys := numP dl bi) 1 (z := .int .u8 0) (by_ := 1) (f := fun b : UInt8 => .int .u8 b.toNat) Tryz.underlying69 (by kernel_rfl) rfl rfl rfl rfl (Rd.own 0 rfl) rfl (fun _ => rfl) (by unfold numP; omega) rfl (fun p2 _ => ?_)
                by_cases hbq : hh = (basics l).length
                · rw [decide_eq_true hbq] at hs
                  (refine r_as rfl rfl <| r_nx h144 <| c_sq fun k152 h152 => c_rg <| r_mv rfl rfl <| r_mv rfl rfl <| r_ad rfl rfl rfl (wadd64 (by omega)) <| r_mv rfl rfl <| r_mv rfl rfl <| r_eqT rfl rfl rfl (by omega) ?_; rotate_left)
                  refine WX.pure rfl rfl (radapt_spec dl ((hh : Int) + 1) true (by omega) _ _) rfl rfl ?_
                  (refine r_as rfl rfl <| r_nx h152 <| c_sq fun k154 h154 => c_rg <| r_as rfl rfl <| r_nx h154 <| c_rg <| r_mv rfl rfl <| r_ad rfl rfl rfl (wadd64 (by omega)) <| r_as rfl rfl <| r_nl <| WE.blk_n <| WE.then_n h136 <| c_rg <| r_mv rfl rfl <| r_ad rfl rfl rfl (wadd64 (by omega)) <| r_as rfl rfl <| r_nl ?_; rotate_left)
                  exact WE.back (i + 1, (0, adaptP dl ((hh : Int) + 1) true, hh + 1, o ++ numP dl bi), p2) ⟨by dsimp only; omega, hs⟩ (by dsimp only; omega) ⟨rfl, rfl, rfl, rfl, rfl, rfl, rfl, rfl, trivial⟩ (Mem.pick [1] (by decide) rfl)
                · rw [decide_eq_false hbq] at hs
                  (refine r_as rfl rfl <| r_nx h144 <| c_sq fun k152 h152 => c_rg <| r_mv rfl rfl <| r_mv rfl rfl <| r_ad rfl rfl rfl (wadd64 (by omega)) <| r_mv rfl rfl <| r_mv rfl rfl <| r_eqF rfl rfl rfl (by omega) ?_; rotate_left)
                  refine WX.pure rfl rfl (radapt_spec dl ((hh : Int) + 1) false (by omega) _ _) rfl rfl ?_
                  (refine r_as rfl rfl <| r_nx h152 <| c_sq fun k154 h154 => c_rg <| r_as rfl rfl <| r_nx h154 <| c_rg <| r_mv rfl rfl <| r_ad rfl rfl rfl (wadd64 (by omega)) <| r_as rfl rfl <| r_nl <| WE.blk_n <| WE.then_n h136 <| c_rg <| r_mv rfl rfl <| r_ad rfl rfl rfl (wadd64 (by omega)) <| r_as rfl rfl <| r_nl ?_; rotate_left)
                  exact WE.back (i + 1, (0, adaptP dl ((hh : Int) + 1) false, hh + 1, o ++ numP dl bi), p2) ⟨by dsimp only; omega, hs⟩ (by dsimp only; omega) ⟨rfl, rfl, rfl, rfl, rfl, rfl, rfl, rfl, trivial⟩ (Mem.pick [1] (by decide) rfl)
              · rw [if_neg hc2, if_neg hc3] at hs
                (refine c_sq fun k131 h131 => c_sq fun k133 h133 => c_rg <| r_mv rfl rfl <| r_mv rfl rfl <| r_ls Tryz.underlying22 rfl rfl <| r_ltT rfl rfl rfl (by omega) <| r_nx h133 <| c_cT rfl <| c_sk <| WE.then_n h131 <| c_sq fun k135 h135 => c_bl <| c_sq fun k137 h137 => c_sq fun k139 h139 => c_rg <| r_mv rfl rfl <| r_mv rfl rfl <| r_im (hA.app _) Tryz.underlying22 (by kernel_rfl) rfl rfl rfl rfl (by omega) (by omega) <| r_li (i) (hA.app _) Tryz.underlying21 rfl rfl rfl (by omega) <| r_cv rfl (cv_int (k' := .i64) rfl Tryz.underlying3 (w64 (by omega))) rfl <| r_mv rfl rfl <| r_ltF rfl rfl rfl (by omega) <| r_nx h139 <| c_cF rfl <| c_sk <| WE.then_n h137 <| c_sq fun k141 h141 => c_rg <| r_mv rfl rfl <| r_mv rfl rfl <| r_im (hA.app _) Tryz.underlying22 (by kernel_rfl) rfl rfl rfl rfl (by omega) (by omega) <| r_li (i) (hA.app _) Tryz.underlying21 rfl rfl rfl (by omega) <| r_cv rfl (cv_int (k' := .i64) rfl Tryz.underlying3 (w64 (by omega))) rfl <| r_mv rfl rfl <| r_eqF rfl rfl rfl (by omega) <| r_nx h141 <| c_cF rfl <| c_sk <| WE.blk_n <| WE.then_n h135 <| c_rg <| r_mv rfl rfl <| r_ad rfl rfl rfl (wadd64 (by omega)) <| r_as rfl rfl <| r_nl ?_; rotate_left)
                exact WE.back (i + 1, (dl, bi, hh, o), p) ⟨by dsimp only; omega, hs⟩ (by dsimp only; omega) ⟨rfl, rfl, rfl, rfl, rfl, rfl, rfl, rfl, trivial⟩ Mem.keep
          · have hta : l.take i = l := List.take_of_length_le (by omega)
            rw [hta] at he p3 p4 hcp
            have hR : encRound l (basics l).length n (delta, bias, h, out) = (dl, bi, hh, o) := by rw [← he, hs0]; rfl
            rw [hR] at e1
            have hpos : 0 < l.countP (fun c => decide (c = minGe n l)) := List.countP_pos_iff.2 ⟨_, hm1, by simp⟩
            have hbs := below_succ (minGe n l) l
            rw [below_min hmx hm2, ← e3] at hbs
            have hil : (i : Int) = l.length := by omega
            (refine c_sq fun k130 h130 => c_sq fun k132 h132 => c_rg <| r_mv rfl rfl <| r_mv rfl rfl <| r_ls Tryz.underlying22 rfl rfl <| r_ltF rfl rfl rfl (by omega) <| r_nx h132 <| c_cF rfl <| c_ex <| WE.then_x <| WE.then_x <| WE.blk_x <| WE.then_n h96 <| c_sq fun k134 h134 => c_rg <| r_mv rfl rfl <| r_ad rfl rfl rfl (wadd64 (by omega)) <| r_as rfl rfl <| r_nx h134 <| c_rg <| r_mv rfl rfl <| r_ad rfl rfl rfl (wadd64 (by omega)) <| r_as rfl rfl <| r_nl <| WE.blk_n ?_; rotate_left)
            exact WE.back (f, minGe n l + 1, (dl + 1, bi, hh, o), p) ⟨e1, by dsimp only; omega, by dsimp only; omega, by dsimp only; omega, by dsimp only; omega, p2, by dsimp only; omega⟩ (by dsimp only; omega) ⟨rfl, rfl, rfl, rfl, rfl, rfl, rfl, trivial⟩ Mem.keep
      · have hfin : encOut l (basics l).length f n (delta, bias, h, out) = out := by cases f with | zero => rfl | succ f => rw [encOut, if_neg hlt]
        rw [hfin] at e1
        (refine c_sq fun k73 h73 => c_sq fun k75 h75 => c_rg <| r_mv rfl rfl <| r_mv rfl rfl <| r_ls Tryz.underlying22 rfl rfl <| r_ltF rfl rfl rfl (by omega) <| r_nx h75 <| c_cF rfl <| c_ex <| WE.then_x <| WE.then_x <| WE.blk_x <| WE.then_n h52 <| c_sq fun k77 h77 => c_rg <| r_mv rfl rfl ?_; rotate_left)
        refine r_cm rfl (fun w hw => conv_bytes (Rd.own 0 rfl) w hw) rfl ?_
        (refine r_as rfl rfl <| r_as rfl rfl <| r_nx h77 <| c_rt ?_; rotate_left)
        exact WE.ret2 () rfl rfl rfl rfl (by rw [e1]) trivial Mem.drop
end Go.Proofs.YthnabbidlmihbaaGreatDoor

/- The document's text of code points: the walk. -/
set_option linter.unusedVariables false
namespace Go.Proofs.YthnabbidlmihbaaGreatDoor
open Go.RowKit Go.Gp

def encB (c : Int) : List UInt8 := (Utf8.encode c).data.toList
theorem valid_of {c : Int} (h : ScP c) : Utf8.valid c = true := by
  unfold Utf8.valid
  simp
  omega
theorem u8_ofNat {n : Nat} (h : n < 256) : ((UInt8.ofNat n).toNat : Int) = n := by
  rw [UInt8.toNat_ofNat']
  omega
set_option maxRecDepth 100000 in
theorem enc1 {c : Int} (h : ScP c) (h1 : c < 128) : bys (encB c) = [.int .u8 c] ∧ (encB c).length = 1 := by
  obtain ⟨n, rfl⟩ : ∃ n : Nat, c = (n : Int) := ⟨c.toNat, by omega⟩
  unfold encB Utf8.encode
  simp only [valid_of h, if_true, Int.toNat_natCast]
  rw [if_pos (by omega)]
  exact ⟨by simp only [bys, List.map_cons, List.map_nil]; rw [u8_ofNat (by omega)], by simp⟩
set_option maxRecDepth 100000 in
theorem enc2 {c : Int} (h : ScP c) (h1 : ¬ c < 128) (h2 : c < 2048) : bys (encB c) = [.int .u8 (192 + c / 64), .int .u8 (128 + c % 64)] ∧ (encB c).length = 2 := by
  obtain ⟨n, rfl⟩ : ∃ n : Nat, c = (n : Int) := ⟨c.toNat, by omega⟩
  unfold encB Utf8.encode
  simp only [valid_of h, if_true, Int.toNat_natCast]
  rw [if_neg (by omega), if_pos (by omega)]
  exact ⟨by simp only [bys, List.map_cons, List.map_nil]; rw [u8_ofNat (by omega), u8_ofNat (by omega)]; simp, by simp⟩
set_option maxRecDepth 100000 in
theorem enc3 {c : Int} (h : ScP c) (h1 : ¬ c < 128) (h2 : ¬ c < 2048) (h3 : c < 65536) : bys (encB c) = [.int .u8 (224 + c / 4096), .int .u8 (128 + c / 64 % 64), .int .u8 (128 + c % 64)] ∧ (encB c).length = 3 := by
  obtain ⟨n, rfl⟩ : ∃ n : Nat, c = (n : Int) := ⟨c.toNat, by omega⟩
  unfold encB Utf8.encode
  simp only [valid_of h, if_true, Int.toNat_natCast]
  rw [if_neg (by omega), if_neg (by omega), if_pos (by omega)]
  exact ⟨by simp only [bys, List.map_cons, List.map_nil]; rw [u8_ofNat (by omega), u8_ofNat (by omega), u8_ofNat (by omega)]; simp, by simp⟩
set_option maxRecDepth 100000 in
theorem enc4 {c : Int} (h : ScP c) (h1 : ¬ c < 128) (h2 : ¬ c < 2048) (h3 : ¬ c < 65536) : bys (encB c) = [.int .u8 (240 + c / 262144), .int .u8 (128 + c / 4096 % 64), .int .u8 (128 + c / 64 % 64), .int .u8 (128 + c % 64)] ∧ (encB c).length = 4 := by
  obtain ⟨n, rfl⟩ : ∃ n : Nat, c = (n : Int) := ⟨c.toNat, by omega⟩
  unfold encB Utf8.encode
  simp only [valid_of h, if_true, Int.toNat_natCast]
  rw [if_neg (by omega), if_neg (by omega), if_neg (by omega)]
  exact ⟨by simp only [bys, List.map_cons, List.map_nil]; rw [u8_ofNat (by omega), u8_ofNat (by omega), u8_ofNat (by omega), u8_ofNat (by omega)]; simp, by simp⟩
set_option maxRecDepth 100000 in
theorem rbytes_spec (c : Int) (h : ScP c) (w0 : World) (m0 : List Res) :
    Ct (α := Option Addr × Nat) Tryz.prog 51 [.int .i32 c] w0 [] m0 (fun _ => True) (fun p => .slice p.1 (encB c).length p.2) (fun p => [OwnB p (encB c)]) := by
  refine Ct.of Tryz.func51 rfl (by kernel_rfl) rfl ?_
  by_cases h1 : c < 128
  · obtain ⟨e1, e2⟩ := enc1 h h1
    simp only [OwnB, e1, e2]
    (refine c_sq fun k8 h8 => c_rg <| r_as rfl rfl <| r_nx h8 <| c_sq fun k10 h10 => c_sq fun k12 h12 => c_rg <| r_mv rfl rfl <| r_ltT rfl rfl rfl (by omega) <| r_nx h12 <| c_cT rfl <| c_sq fun k14 h14 => c_rg <| r_mv rfl rfl <| r_cv rfl (cv_int (k' := .u8) rfl Tryz.underlying5 (w8 (by omega))) rfl <| r_bo Tryz.underlying69 rfl (fun _ => by kernel_rfl) rfl rfl rfl (fun _ => ?_); refine r_as rfl rfl <| r_nx h14 <| c_rt <| WE.then_r ?_; rotate_left)
    rename_i b
    exact WE.ret1 (some ⟨b, 0, none⟩, 1) rfl rfl rfl trivial Mem.keep
  · by_cases h2 : c < 2048
    · obtain ⟨e1, e2⟩ := enc2 h h1 h2
      simp only [OwnB, e1, e2]
      (refine c_sq fun k9 h9 => c_rg <| r_as rfl rfl <| r_nx h9 <| c_sq fun k11 h11 => c_sq fun k13 h13 => c_rg <| r_mv rfl rfl <| r_ltF rfl rfl rfl (by omega) <| r_nx h13 <| c_cF rfl <| c_sk <| WE.then_n h11 <| c_sq fun k15 h15 => c_sq fun k17 h17 => c_rg <| r_mv rfl rfl <| r_ltT rfl rfl rfl (by omega) <| r_nx h17 <| c_cT rfl <| c_sq fun k19 h19 => c_rg <| r_mv rfl rfl <| r_qu rfl rfl rfl (by omega) (wquo32 (by omega)) <| r_ad rfl rfl rfl (wadd32 (by omega)) <| r_cv rfl (cv_int (k' := .u8) rfl Tryz.underlying5 (w8 (by omega))) rfl <| r_mv rfl rfl <| r_re rfl rfl rfl (by omega) (wrem (by omega)) <| r_ad rfl rfl rfl (wadd32 (by omega)) <| r_cv rfl (cv_int (k' := .u8) rfl Tryz.underlying5 (w8 (by omega))) rfl <| r_bo Tryz.underlying69 rfl (fun _ => by kernel_rfl) rfl rfl rfl (fun _ => ?_); refine r_as rfl rfl <| r_nx h19 <| c_rt <| WE.then_r ?_; rotate_left)
      rename_i b
      exact WE.ret1 (some ⟨b, 0, none⟩, 2) rfl rfl rfl trivial Mem.keep
    · by_cases h3 : c < 65536
      · obtain ⟨e1, e2⟩ := enc3 h h1 h2 h3
        simp only [OwnB, e1, e2]
        (refine c_sq fun k10 h10 => c_rg <| r_as rfl rfl <| r_nx h10 <| c_sq fun k12 h12 => c_sq fun k14 h14 => c_rg <| r_mv rfl rfl <| r_ltF rfl rfl rfl (by omega) <| r_nx h14 <| c_cF rfl <| c_sk <| WE.then_n h12 <| c_sq fun k16 h16 => c_sq fun k18 h18 => c_rg <| r_mv rfl rfl <| r_ltF rfl rfl rfl (by omega) <| r_nx h18 <| c_cF rfl <| c_sk <| WE.then_n h16 <| c_sq fun k20 h20 => c_sq fun k22 h22 => c_rg <| r_mv rfl rfl <| r_ltT rfl rfl rfl (by omega) <| r_nx h22 <| c_cT rfl <| c_sq fun k24 h24 => c_rg <| r_mv rfl rfl <| r_qu rfl rfl rfl (by omega) (wquo32 (by omega)) <| r_ad rfl rfl rfl (wadd32 (by omega)) <| r_cv rfl (cv_int (k' := .u8) rfl Tryz.underlying5 (w8 (by omega))) rfl <| r_mv rfl rfl <| r_qu rfl rfl rfl (by omega) (wquo32 (by omega)) <| r_re rfl rfl rfl (by omega) (wrem (by omega)) <| r_ad rfl rfl rfl (wadd32 (by omega)) <| r_cv rfl (cv_int (k' := .u8) rfl Tryz.underlying5 (w8 (by omega))) rfl <| r_mv rfl rfl <| r_re rfl rfl rfl (by omega) (wrem (by omega)) <| r_ad rfl rfl rfl (wadd32 (by omega)) <| r_cv rfl (cv_int (k' := .u8) rfl Tryz.underlying5 (w8 (by omega))) rfl <| r_bo Tryz.underlying69 rfl (fun _ => by kernel_rfl) rfl rfl rfl (fun _ => ?_); refine r_as rfl rfl <| r_nx h24 <| c_rt <| WE.then_r ?_; rotate_left)
        rename_i b
        exact WE.ret1 (some ⟨b, 0, none⟩, 3) rfl rfl rfl trivial Mem.keep
      · obtain ⟨e1, e2⟩ := enc4 h h1 h2 h3
        simp only [OwnB, e1, e2]
        (refine c_sq fun k10 h10 => c_rg <| r_as rfl rfl <| r_nx h10 <| c_sq fun k12 h12 => c_sq fun k14 h14 => c_rg <| r_mv rfl rfl <| r_ltF rfl rfl rfl (by omega) <| r_nx h14 <| c_cF rfl <| c_sk <| WE.then_n h12 <| c_sq fun k16 h16 => c_sq fun k18 h18 => c_rg <| r_mv rfl rfl <| r_ltF rfl rfl rfl (by omega) <| r_nx h18 <| c_cF rfl <| c_sk <| WE.then_n h16 <| c_sq fun k20 h20 => c_sq fun k22 h22 => c_rg <| r_mv rfl rfl <| r_ltF rfl rfl rfl (by omega) <| r_nx h22 <| c_cF rfl <| c_sk <| WE.then_n h20 <| c_sq fun k24 h24 => c_rg <| r_mv rfl rfl <| r_qu rfl rfl rfl (by omega) (wquo32 (by omega)) <| r_ad rfl rfl rfl (wadd32 (by omega)) <| r_cv rfl (cv_int (k' := .u8) rfl Tryz.underlying5 (w8 (by omega))) rfl <| r_mv rfl rfl <| r_qu rfl rfl rfl (by omega) (wquo32 (by omega)) <| r_re rfl rfl rfl (by omega) (wrem (by omega)) <| r_ad rfl rfl rfl (wadd32 (by omega)) <| r_cv rfl (cv_int (k' := .u8) rfl Tryz.underlying5 (w8 (by omega))) rfl <| r_mv rfl rfl <| r_qu rfl rfl rfl (by omega) (wquo32 (by omega)) <| r_re rfl rfl rfl (by omega) (wrem (by omega)) <| r_ad rfl rfl rfl (wadd32 (by omega)) <| r_cv rfl (cv_int (k' := .u8) rfl Tryz.underlying5 (w8 (by omega))) rfl <| r_mv rfl rfl <| r_re rfl rfl rfl (by omega) (wrem (by omega)) <| r_ad rfl rfl rfl (wadd32 (by omega)) <| r_cv rfl (cv_int (k' := .u8) rfl Tryz.underlying5 (w8 (by omega))) rfl <| r_bo Tryz.underlying69 rfl (fun _ => by kernel_rfl) rfl rfl rfl (fun _ => ?_); refine r_as rfl rfl <| r_nx h24 <| c_rt ?_; rotate_left)
        rename_i b
        exact WE.ret1 (some ⟨b, 0, none⟩, 4) rfl rfl rfl trivial Mem.keep
theorem runesBytes_snoc (l : List Int) (c : Int) : runesBytes (l ++ [c]) = runesBytes l ++ Utf8.encode c := by simp [runesBytes]
theorem rb_list (l : List Int) (c : Int) : (runesBytes (l ++ [c])).data.toList = (runesBytes l).data.toList ++ encB c := by
  rw [runesBytes_snoc, ByteArray.data_append, Array.toList_append]
  rfl
theorem encB_le (c : Int) : (encB c).length ≤ 4 := by
  have := encode_size_le c
  unfold encB
  simpa using this
theorem rb_len (l : List Int) : (runesBytes l).data.toList.length ≤ 4 * l.length := by
  have := runesBytes_size_le l
  simpa using this
theorem strOf_self (s : ByteArray) : strOf s.data.toList = s := by
  unfold strOf
  cases s
  simp
set_option maxRecDepth 100000 in
theorem rencU_spec (A : Option Addr) (c : Nat) (l : List Int) (hn : l.length ≤ 1000000) (hl : Sc l) (w0 : World) (m0 : List Res) (hA : Rd w0 m0 A (runes l)) :
    PureC Tryz.prog 23 [.slice A l.length c] w0 m0 (.string (runesBytes l)) := by
  refine Ct.of Tryz.func23 rfl (by kernel_rfl) rfl ?_
  (refine c_sq fun k9 h9 => c_rg <| r_as rfl rfl <| r_nx h9 <| c_sq fun k11 h11 => c_rg <| r_as rfl rfl <| r_nx h11 <| c_sq fun k13 h13 => c_sq fun k15 h15 => c_rg <| r_as rfl rfl <| r_nx h15 <| c_bl ?_; rotate_left)
  refine WC.loop (α := Nat × (Option Addr × Nat)) (fun x => [(0, .slice A l.length c), (4, .int .i64 x.1), (3, .slice x.2.1 (runesBytes (l.take x.1)).data.toList.length x.2.2)]) (fun x => [OwnB x.2 (runesBytes (l.take x.1)).data.toList]) (fun x => x.1 ≤ l.length) (fun x => l.length - x.1) (0, (none, 0)) (by simp) ⟨rfl, rfl, rfl, trivial⟩ (Mem.nilOwn _ _) ?_
  rintro ⟨i, p⟩ hi
  dsimp only at hi ⊢
  have hb := rb_len (l.take i)
  have hti : (l.take i).length ≤ i := List.length_take_le _ _
  by_cases hlt : i < l.length
  · have hc := hl.getD hlt
    have hsc : ∀ mm, PureC Tryz.prog 22 [.int .i32 (l.getD i 0)] w0 mm (.bool true) := fun mm => by have := scalar_spec (l.getD i 0) w0 mm; rwa [decide_eq_true hc] at this
    have hs := rb_list (l.take i) (l.getD i 0)
    rw [← take_next hlt] at hs
    have he := encB_le (l.getD i 0)
    (refine c_sq fun k28 h28 => c_sq fun k30 h30 => c_rg <| r_mv rfl rfl <| r_mv rfl rfl <| r_ls Tryz.underlying22 rfl rfl <| r_ltT rfl rfl rfl (by omega) <| r_nx h30 <| c_cT rfl <| c_sk <| WE.then_n h28 <| c_sq fun k32 h32 => c_bl <| c_sq fun k34 h34 => c_rg <| r_mv rfl rfl <| r_mv rfl rfl <| r_im (hA.app _) Tryz.underlying22 (by kernel_rfl) rfl rfl rfl rfl (by omega) (by omega) <| r_li (i) (hA.app _) Tryz.underlying21 rfl rfl rfl (by omega) ?_; rotate_left)
    refine WX.pure rfl rfl (hsc _) rfl rfl ?_
    (refine r_nx h34 <| c_cT rfl <| c_rg <| r_mv rfl rfl <| r_mv rfl rfl <| r_mv rfl rfl <| r_im (hA.app _) Tryz.underlying22 (by kernel_rfl) rfl rfl rfl rfl (by omega) (by omega) <| r_li (i) (hA.app _) Tryz.underlying21 rfl rfl rfl (by omega) ?_; rotate_left)
    refine WX.call (m1 := []) (m2 := _) rfl rfl rfl (rbytes_spec (l.getD i 0) hc _ _) rfl rfl (fun q _ => ?_)
    refine r_am (xs := (runesBytes (l.take i)).data.toList) (ys := encB (l.getD i 0)) 1 (z := .int .u8 0) (by_ := 1) (f := fun b : UInt8 => .int .u8 b.toNat) Tryz.underlying69 (by kernel_rfl) rfl rfl rfl rfl (Rd.own 0 rfl) rfl (fun _ => rfl) (by omega) rfl (fun p2 _ => ?_)
    rw [← hs]
    (refine r_as rfl rfl <| r_nl <| WE.blk_n <| WE.then_n h32 <| c_rg <| r_mv rfl rfl <| r_ad rfl rfl rfl (wadd64 (by omega)) <| r_as rfl rfl <| r_nl ?_; rotate_left)
    exact WE.back (i + 1, p2) (by dsimp only; omega) (by dsimp only; omega) ⟨rfl, rfl, rfl, trivial⟩ (Mem.pick [1] (by decide) rfl)
  · have e : l.take i = l := List.take_of_length_le (by omega)
    rw [e]
    (refine c_sq fun k24 h24 => c_sq fun k26 h26 => c_rg <| r_mv rfl rfl <| r_mv rfl rfl <| r_ls Tryz.underlying22 rfl rfl <| r_ltF rfl rfl rfl (by omega) <| r_nx h26 <| c_cF rfl <| c_ex <| WE.then_x <| WE.then_x <| WE.blk_x <| WE.then_n h13 <| c_sq fun k28 h28 => c_rg <| r_mv rfl rfl ?_; rotate_left)
    refine r_cm rfl (fun w hw => conv_bytes (Rd.own 0 rfl) w hw) rfl ?_
    rw [strOf_self]
    (refine r_as rfl rfl <| r_nx h28 <| c_rt ?_; rotate_left)
    exact WE.ret1 () rfl rfl rfl trivial Mem.drop
end Go.Proofs.YthnabbidlmihbaaGreatDoor

/- Code points of a name folded: the contract of fold.Fold. -/
namespace Go.Proofs.YthnabbidlmihbaaGreatDoor
open Go.RowKit Go.Gp

def okAll (l : List Int) : Bool := l.all fun c => (mapP c).2
def mapAll (l : List Int) : List Int := l.flatMap fun c => (mapP c).1
theorem mapP_short (c : Int) : (mapP c).1.length ≤ 2 := by
  have h1 : ∀ c d : Int, (map1 c d).1.length ≤ 2 := by
    intro c d
    by_cases a1 : d = -1
    · simp [map1, a1]
    by_cases a2 : d = -2
    · simp [map1, a2]
    by_cases a3 : d = -3
    · simp [map1, a3]
    by_cases a4 : d = -5
    · simp [map1, a4]
    simp [map1, a1, a2, a3, a4]
  unfold mapP; split <;> exact h1 _ _
theorem mapAll_length (l : List Int) : (mapAll l).length ≤ 2 * l.length := by
  induction l with
  | nil => simp [mapAll]
  | cons c l ih =>
    have := mapP_short c
    simp only [mapAll, List.flatMap_cons, List.length_append, List.length_cons] at ih ⊢
    omega
theorem mapAll_snoc (l : List Int) (c : Int) : mapAll (l ++ [c]) = mapAll l ++ (mapP c).1 := by simp [mapAll]
theorem okAll_snoc (l : List Int) (c : Int) : okAll (l ++ [c]) = (okAll l && (mapP c).2) := by simp [okAll]
/-- Every number is a rune's. -/
def R32 (l : List Int) : Prop := ∀ i, i < l.length → -2147483648 ≤ l.getD i 0 ∧ l.getD i 0 ≤ 2147483647
def sFold : ByteArray := ⟨#[102, 111, 108, 100]⟩

set_option maxRecDepth 100000 in
theorem fold_ok (A : Option Addr) (c : Nat) (l : List Int) (hn : l.length ≤ 1000000000) (hl : R32 l) (hok : okAll l = true) (w0 : World) (m0 : List Res) (hA : Rd w0 m0 A (runes l)) :
    Ct (α := Option Addr × Nat) Tryz.prog 29 [.slice A l.length c] w0 [] m0 (fun _ => True) (fun p => .tuple #[SlR p (compR (mapAll l)), .nilIface]) (fun p => [OwnR p (compR (mapAll l))]) := by
  refine Ct.of Tryz.func29 rfl (by kernel_rfl) rfl ?_
  (refine c_sq fun k10 h10 => c_rg <| r_as rfl rfl <| r_as rfl rfl <| r_nx h10 <| c_sq fun k12 h12 => c_rg <| r_as rfl rfl <| r_nx h12 <| c_sq fun k14 h14 => c_sq fun k16 h16 => c_rg <| r_mv rfl rfl <| r_ls Tryz.underlying22 rfl rfl <| r_mv rfl rfl <| r_nx h16 <| c_bl ?_; rotate_left)
  refine WC.loop (α := Nat × (Option Addr × Nat)) (fun x => [(9, .slice A l.length c), (10, .int .i64 l.length), (11, .int .i64 x.1), (4, SlR x.2 (mapAll (l.take x.1)))])
    (fun x => [OwnR x.2 (mapAll (l.take x.1))]) (fun x => x.1 ≤ l.length) (fun x => l.length - x.1) (0, (none, 0)) (by simp) ⟨rfl, rfl, rfl, rfl, trivial⟩ (Mem.nilOwn _ _) ?_
  rintro ⟨i, p⟩ hi
  dsimp only at hi ⊢
  by_cases hlt : i < l.length
  · have hc := mapAll_length (l.take i)
    have hc' : (l.take i).length ≤ i := List.length_take_le _ _
    have hs := mapP_short (l.getD i 0)
    have hb := hl i hlt
    have ht : (mapP (l.getD i 0)).2 = true := by
      have h1 : okAll (l.take (i + 1)) = true := by
        unfold okAll at hok ⊢
        rw [List.all_eq_true] at hok ⊢
        exact fun x hx => hok x (List.mem_of_mem_take hx)
      rw [take_next hlt, okAll_snoc] at h1
      simpa using (Bool.and_eq_true _ _ ▸ h1).2
    (refine c_sq fun k27 h27 => c_rg <| r_ltT rfl rfl rfl (by omega) <| r_nx h27 <| c_sq fun k29 h29 => c_cT rfl <| c_sk <| WE.then_n h29 <| c_sq fun k31 h31 => c_bl <| c_sq fun k33 h33 => c_rg <| r_im (hA.app _) Tryz.underlying22 (by kernel_rfl) rfl rfl rfl rfl (by omega) (by omega) <| r_li (i) (hA.app _) Tryz.underlying21 rfl rfl rfl (by omega) <| r_as rfl rfl <| r_nx h33 <| c_sq fun k35 h35 => c_rg <| r_mv rfl rfl ?_; rotate_left)
    refine WX.call (m1 := []) (m2 := [OwnR p (mapAll (l.take i))]) rfl rfl rfl (map_spec (l.getD i 0) hb.1 hb.2 _ _) rfl rfl (fun q _ => ?_)
    rw [ht]
    (refine r_mv rfl rfl <| r_ex rfl rfl rfl <| r_ex rfl rfl rfl <| r_as rfl rfl <| r_as rfl rfl <| r_nx h35 <| c_sq fun k39 h39 => c_sq fun k41 h41 => c_rg <| r_mv rfl rfl <| r_no rfl rfl rfl <| r_nx h41 <| c_cF rfl <| c_sk <| WE.then_n h39 <| c_rg <| r_mv rfl rfl <| r_mv rfl rfl ?_; rotate_left)
    refine r_am (ys := (mapP (l.getD i 0)).1) 1 (z := .int .i32 0) (by_ := 4) (f := (.int .i32 ·)) Tryz.underlying22 (by kernel_rfl) rfl rfl rfl rfl (Rd.own 0 rfl) rfl (fun _ => rfl) (by omega) rfl (fun r _ => ?_)
    rw [← mapAll_snoc, ← take_next hlt]
    (refine r_as rfl rfl <| r_nl <| WE.blk_n <| WE.then_n h31 <| c_rg <| r_ad rfl rfl rfl (wadd64 (by omega)) <| r_mv rfl rfl <| r_nl ?_; rotate_left)
    exact WE.back (i + 1, r) (by dsimp only; omega) (by dsimp only; omega) ⟨rfl, rfl, rfl, rfl, trivial⟩ (Mem.pick [1] (by decide) rfl)
  · have e : l.take i = l := List.take_of_length_le (by omega)
    rw [e]
    have hm := mapAll_length l
    (refine c_sq fun k24 h24 => c_rg <| r_ltF rfl rfl rfl (by omega) <| r_nx h24 <| c_sq fun k26 h26 => c_cF rfl <| c_ex <| WE.then_x <| WE.then_x <| WE.blk_x <| WE.then_n h14 <| c_sq fun k28 h28 => c_rg <| r_mv rfl rfl ?_; rotate_left)
    refine WX.call (m1 := []) (m2 := [OwnR p (mapAll l)]) rfl rfl rfl (compose_spec p.1 p.2 (mapAll l) (by omega) _ _ (Rd.own 0 rfl)) rfl rfl (fun q _ => ?_)
    (refine r_as rfl rfl <| r_as rfl rfl <| r_nx h28 <| c_rt ?_; rotate_left)
    exact WE.ret2 q rfl rfl rfl rfl rfl trivial (Mem.pick [0] (by decide) rfl)

set_option maxRecDepth 100000 in
theorem fold_no (A : Option Addr) (c : Nat) (l : List Int) (hn : l.length ≤ 1000000000) (hl : R32 l) (hok : okAll l = false) (w0 : World) (m0 : List Res) (hA : Rd w0 m0 A (runes l)) :
    Ct (α := Nat) Tryz.prog 29 [.slice A l.length c] w0 [] m0 (fun _ => True) (fun b => .tuple #[.slice none 0 0, ecv [(b, sFold)] 2]) (fun b => ecm [(b, sFold)] 2) := by
  refine Ct.of Tryz.func29 rfl (by kernel_rfl) rfl ?_
  (refine c_sq fun k10 h10 => c_rg <| r_as rfl rfl <| r_as rfl rfl <| r_nx h10 <| c_sq fun k12 h12 => c_rg <| r_as rfl rfl <| r_nx h12 <| c_sq fun k14 h14 => c_sq fun k16 h16 => c_rg <| r_mv rfl rfl <| r_ls Tryz.underlying22 rfl rfl <| r_mv rfl rfl <| r_nx h16 <| c_bl ?_; rotate_left)
  refine WC.loop (α := Nat × (Option Addr × Nat)) (fun x => [(9, .slice A l.length c), (10, .int .i64 l.length), (11, .int .i64 x.1), (4, SlR x.2 (mapAll (l.take x.1)))])
    (fun x => [OwnR x.2 (mapAll (l.take x.1))]) (fun x => x.1 ≤ l.length ∧ okAll (l.take x.1) = true) (fun x => l.length - x.1) (0, (none, 0)) ⟨by simp, rfl⟩ ⟨rfl, rfl, rfl, rfl, trivial⟩ (Mem.nilOwn _ _) ?_
  rintro ⟨i, p⟩ ⟨hi, ho⟩
  dsimp only at hi ho ⊢
  by_cases hlt : i < l.length
  · have hc := mapAll_length (l.take i)
    have hc' : (l.take i).length ≤ i := List.length_take_le _ _
    have hs := mapP_short (l.getD i 0)
    have hb := hl i hlt
    (refine c_sq fun k27 h27 => c_rg <| r_ltT rfl rfl rfl (by omega) <| r_nx h27 <| c_sq fun k29 h29 => c_cT rfl <| c_sk <| WE.then_n h29 <| c_sq fun k31 h31 => c_bl <| c_sq fun k33 h33 => c_rg <| r_im (hA.app _) Tryz.underlying22 (by kernel_rfl) rfl rfl rfl rfl (by omega) (by omega) <| r_li (i) (hA.app _) Tryz.underlying21 rfl rfl rfl (by omega) <| r_as rfl rfl <| r_nx h33 <| c_sq fun k35 h35 => c_rg <| r_mv rfl rfl ?_; rotate_left)
    refine WX.call (m1 := []) (m2 := [OwnR p (mapAll (l.take i))]) rfl rfl rfl (map_spec (l.getD i 0) hb.1 hb.2 _ _) rfl rfl (fun q _ => ?_)
    rcases Bool.eq_false_or_eq_true (mapP (l.getD i 0)).2 with ht | ht
    · rw [ht]
      (refine r_mv rfl rfl <| r_ex rfl rfl rfl <| r_ex rfl rfl rfl <| r_as rfl rfl <| r_as rfl rfl <| r_nx h35 <| c_sq fun k40 h40 => c_sq fun k42 h42 => c_rg <| r_mv rfl rfl <| r_no rfl rfl rfl <| r_nx h42 <| c_cF rfl <| c_sk <| WE.then_n h40 <| c_rg <| r_mv rfl rfl <| r_mv rfl rfl ?_; rotate_left)
      refine r_am (ys := (mapP (l.getD i 0)).1) 1 (z := .int .i32 0) (by_ := 4) (f := (.int .i32 ·)) Tryz.underlying22 (by kernel_rfl) rfl rfl rfl rfl (Rd.own 0 rfl) rfl (fun _ => rfl) (by omega) rfl (fun r _ => ?_)
      rw [← mapAll_snoc, ← take_next hlt]
      (refine r_as rfl rfl <| r_nl <| WE.blk_n <| WE.then_n h31 <| c_rg <| r_ad rfl rfl rfl (wadd64 (by omega)) <| r_mv rfl rfl <| r_nl ?_; rotate_left)
      exact WE.back (i + 1, r) ⟨by dsimp only; omega, by dsimp only; rw [take_next hlt, okAll_snoc, ho, ht]; rfl⟩ (by dsimp only; omega) ⟨rfl, rfl, rfl, rfl, trivial⟩ (Mem.pick [1] (by decide) rfl)
    · rw [ht]
      (refine r_mv rfl rfl <| r_ex rfl rfl rfl <| r_ex rfl rfl rfl <| r_as rfl rfl <| r_as rfl rfl <| r_nx h35 <| c_sq fun k40 h40 => c_sq fun k42 h42 => c_rg <| r_mv rfl rfl <| r_no rfl rfl rfl <| r_nx h42 <| c_cT rfl <| c_sq fun k44 h44 => c_rg <| r_mi rfl (fun _ => by kernel_rfl) rfl ?_; rotate_left)
      refine WX.call (m1 := []) (m2 := _) rfl rfl rfl (wrap_spec sFold [] 2 _ _) rfl rfl (fun b _ => ?_)
      (refine r_as rfl rfl <| r_as rfl rfl <| r_nx h44 <| c_rt <| WE.then_r <| WE.blk_r <| WE.then_r <| WE.then_r <| WE.blk_r <| WE.then_r ?_; rotate_left)
      exact WE.ret2 b rfl rfl rfl rfl rfl trivial (Mem.pick [0] (by decide) rfl)
  · have e : l.take i = l := List.take_of_length_le (by omega)
    rw [e, hok] at ho
    cases ho
end Go.Proofs.YthnabbidlmihbaaGreatDoor
