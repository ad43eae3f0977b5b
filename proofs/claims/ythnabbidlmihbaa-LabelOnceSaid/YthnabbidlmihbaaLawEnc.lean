/- puny.Encode in plain Lean: what it computes, and the bounds that its walk wants. -/
import Derived.Test.YthnabbidlmihbaaPunyN
namespace Go.Proofs.Ythnabbidlmihbaa
open Go.RowKit Go.Gp

def b8 (c : Int) : UInt8 := UInt8.ofNat c.toNat
theorem b8_toNat {c : Int} (h : 0 ≤ c) (h2 : c ≤ 255) : ((b8 c).toNat : Int) = c := by
  unfold b8
  rw [UInt8.toNat_ofNat']
  omega
/-- The plain ones. -/
def basics (l : List Int) : List UInt8 := (l.filter fun c => decide (c < 128)).map b8
theorem basics_snoc (l : List Int) (c : Int) : basics (l ++ [c]) = if c < 128 then basics l ++ [b8 c] else basics l := by
  unfold basics
  rw [List.filter_append]
  by_cases h : c < 128
  · simp [h]
  · simp [h]
theorem basics_length (l : List Int) : (basics l).length = l.countP fun c => decide (c < 128) := by simp [basics, List.countP_eq_length_filter]
/-- The least one that is not below n. -/
def minGe (n : Int) (l : List Int) : Int := l.foldl (fun m c => if n ≤ c then min m c else m) 1114111
theorem minGe_snoc (n : Int) (l : List Int) (c : Int) : minGe n (l ++ [c]) = if n ≤ c then min (minGe n l) c else minGe n l := by simp [minGe]
/-- delta, the bias, how many, the text. -/
abbrev ES := Int × Int × Nat × List UInt8
def encStep (n : Int) (basic : Nat) (s : ES) (c : Int) : ES :=
  let d := if c < n then s.1 + 1 else s.1
  if c = n then (0, adaptP d (s.2.2.1 + 1) (decide (s.2.2.1 = basic)), s.2.2.1 + 1, s.2.2.2 ++ numP d s.2.1) else (d, s.2.1, s.2.2.1, s.2.2.2)
def encIn (n : Int) (basic : Nat) (l : List Int) (s : ES) : ES := l.foldl (encStep n basic) s
theorem encIn_snoc (n : Int) (basic : Nat) (l : List Int) (c : Int) (s : ES) : encIn n basic (l ++ [c]) s = encStep n basic (encIn n basic l s) c := by simp [encIn]
def encRound (l : List Int) (basic : Nat) (n : Int) (s : ES) : ES :=
  encIn (minGe n l) basic l (s.1 + (minGe n l - n) * (s.2.2.1 + 1), s.2.1, s.2.2.1, s.2.2.2)
def encOut (l : List Int) (basic : Nat) : Nat → Int → ES → List UInt8
  | 0, _, s => s.2.2.2
  | f + 1, n, s => if s.2.2.1 < l.length then encOut l basic f (minGe n l + 1) ((encRound l basic n s).1 + 1, (encRound l basic n s).2) else s.2.2.2
def encP (l : List Int) : List UInt8 :=
  encOut l (basics l).length (l.length + 1) 128 (0, 72, (basics l).length, if 0 < (basics l).length then basics l ++ [45] else [])

/-- How many are below n. -/
def below (n : Int) (l : List Int) : Nat := l.countP fun c => decide (c < n)
theorem minGe_props (n : Int) (l : List Int) (hl : ∀ c ∈ l, c ≤ 1114111) : minGe n l ≤ 1114111 ∧ (∀ c ∈ l, n ≤ c → minGe n l ≤ c) ∧ (minGe n l ∈ l ∧ n ≤ minGe n l ∨ (minGe n l = 1114111 ∧ ∀ c ∈ l, c < n ∨ c = 1114111)) := by
  have key : ∀ k (l : List Int), l.length = k → (∀ c ∈ l, c ≤ 1114111) → minGe n l ≤ 1114111 ∧ (∀ c ∈ l, n ≤ c → minGe n l ≤ c) ∧ (minGe n l ∈ l ∧ n ≤ minGe n l ∨ (minGe n l = 1114111 ∧ ∀ c ∈ l, c < n ∨ c = 1114111)) := by
    intro k
    induction k with
    | zero =>
      intro l hk _
      have : l = [] := List.eq_nil_of_length_eq_zero hk
      subst this
      exact ⟨by simp [minGe], by simp, .inr ⟨by simp [minGe], by simp⟩⟩
    | succ k ih =>
      intro l hk hl
      rcases List.eq_nil_or_concat l with rfl | ⟨t, u, rfl⟩
      · simp at hk
      · rw [List.concat_eq_append] at hk hl ⊢
        obtain ⟨i1, i2, i3⟩ := ih t (by simpa using hk) (fun c hc => hl c (by simp [hc]))
        have hu := hl u (by simp)
        rw [minGe_snoc]
        by_cases h : n ≤ u
        · rw [if_pos h]
          refine ⟨by omega, fun c hc hn => ?_, ?_⟩
          · rcases List.mem_append.1 hc with hc | hc
            · have := i2 c hc hn; omega
            · rw [List.mem_singleton] at hc; omega
          · left
            rcases i3 with ⟨j1, j2⟩ | ⟨j1, j2⟩
            · by_cases hm : minGe n t ≤ u
              · rw [Int.min_eq_left hm]; exact ⟨by simp [j1], j2⟩
              · rw [Int.min_eq_right (by omega)]; exact ⟨by simp, h⟩
            · rw [Int.min_eq_right (by omega)]; exact ⟨by simp, h⟩
        · rw [if_neg h]
          refine ⟨i1, fun c hc hn => ?_, ?_⟩
          · rcases List.mem_append.1 hc with hc | hc
            · exact i2 c hc hn
            · rw [List.mem_singleton] at hc; omega
          · rcases i3 with ⟨j1, j2⟩ | ⟨j1, j2⟩
            · exact .inl ⟨by simp [j1], j2⟩
            · refine .inr ⟨j1, fun c hc => ?_⟩
              rcases List.mem_append.1 hc with hc | hc
              · exact j2 c hc
              · rw [List.mem_singleton] at hc; omega
  exact key l.length l rfl hl
/-- Where some are left, the least one is there. -/
theorem minGe_mem {n : Int} {l : List Int} (hl : ∀ c ∈ l, c ≤ 1114111) (h : below n l < l.length) : minGe n l ∈ l ∧ n ≤ minGe n l := by
  obtain ⟨h1, h2, h3⟩ := minGe_props n l hl
  rcases h3 with h3 | ⟨h3, h4⟩
  · exact h3
  · have : ∃ c ∈ l, ¬ c < n := by
      refine Classical.byContradiction fun hc => ?_
      have : l.countP (fun c => decide (c < n)) = l.length := by
        rw [List.countP_eq_length]
        intro c hc'
        exact decide_eq_true (Classical.byContradiction fun h => hc ⟨c, hc', h⟩)
      unfold below at h
      omega
    obtain ⟨c, hc, hn⟩ := this
    have hc1 : c = 1114111 := by rcases h4 c hc with h | h <;> omega
    rw [h3, ← hc1]
    exact ⟨hc, by omega⟩
theorem below_min {n : Int} {l : List Int} (hl : ∀ c ∈ l, c ≤ 1114111) (h : n ≤ minGe n l) : below (minGe n l) l = below n l := by
  obtain ⟨h1, h2, _⟩ := minGe_props n l hl
  unfold below
  refine List.countP_congr fun c hc => ?_
  simp only [decide_eq_true_eq]
  constructor
  · intro h5
    refine Classical.byContradiction fun h6 => ?_
    have := h2 c hc (by omega)
    omega
  · intro h5; omega
theorem below_succ (m : Int) (l : List Int) : below (m + 1) l = below m l + l.countP fun c => decide (c = m) := by
  induction l with
  | nil => rfl
  | cons c l ih =>
    unfold below at *
    rw [List.countP_cons, List.countP_cons, List.countP_cons, ih]
    by_cases h1 : c < m
    · simp [h1, show c < m + 1 by omega, show ¬ c = m by omega]; omega
    · by_cases h2 : c = m
      · have a1 : decide (c < m + 1) = true := decide_eq_true (by omega)
        have a2 : decide (c < m) = false := decide_eq_false h1
        have a3 : decide (c = m) = true := decide_eq_true h2
        rw [a1, a2, a3, if_pos rfl, if_neg (by decide : ¬ false = true)]
        omega
      · simp [h1, h2, show ¬ c < m + 1 by omega]
/-- The state inside a round. -/
theorem encIn_props (m : Int) (basic : Nat) (s : ES) (hs : 0 ≤ s.1 ∧ s.1 ≤ 1000000000000) (hb : 0 ≤ s.2.1 ∧ s.2.1 ≤ 1000) : ∀ (k : Nat) (l : List Int), l.length = k → k ≤ 1000000 →
    (0 ≤ (encIn m basic l s).1 ∧ (encIn m basic l s).1 ≤ s.1 + k) ∧ (0 ≤ (encIn m basic l s).2.1 ∧ (encIn m basic l s).2.1 ≤ 1000) ∧ (encIn m basic l s).2.2.1 = s.2.2.1 + l.countP (fun c => decide (c = m)) ∧ (encIn m basic l s).2.2.2.length ≤ s.2.2.2.length + 20 * l.countP (fun c => decide (c = m)) := by
  intro k
  induction k with
  | zero =>
    intro l hk _
    have : l = [] := List.eq_nil_of_length_eq_zero hk
    subst this
    exact ⟨by simp [encIn]; omega, by simp [encIn]; omega, by simp [encIn], by simp [encIn]⟩
  | succ k ih =>
    intro l hk hk2
    rcases List.eq_nil_or_concat l with rfl | ⟨t, u, rfl⟩
    · simp at hk
    · rw [List.concat_eq_append] at hk ⊢
      obtain ⟨i1, i2, i3, i4⟩ := ih t (by simpa using hk) (by omega)
      rw [encIn_snoc, List.countP_append]
      unfold encStep
      dsimp only
      have hd : 0 ≤ (if u < m then (encIn m basic t s).1 + 1 else (encIn m basic t s).1) ∧ (if u < m then (encIn m basic t s).1 + 1 else (encIn m basic t s).1) ≤ s.1 + k + 1 := by split <;> omega
      generalize (if u < m then (encIn m basic t s).1 + 1 else (encIn m basic t s).1) = d at hd
      by_cases hu : u = m
      · rw [if_pos hu]
        have ha := adaptP_bd (delta := d) (many := ((encIn m basic t s).2.2.1 : Int) + 1) (by omega) (decide ((encIn m basic t s).2.2.1 = basic))
        have hn := numL_len (encIn m basic t s).2.1 20 d 36
        refine ⟨by dsimp only; omega, ha, ?_, ?_⟩
        · simp [hu, i3]; omega
        · have e1 : [u].countP (fun c => decide (c = m)) = 1 := by simp [hu]
          simp only [List.length_append, numP, e1]; omega
      · rw [if_neg hu]
        refine ⟨by dsimp only; omega, i2, ?_, ?_⟩
        · simp [hu, i3]
        · have e1 : [u].countP (fun c => decide (c = m)) = 0 := by simp [hu]
          simp only [e1]; omega
end Go.Proofs.Ythnabbidlmihbaa
