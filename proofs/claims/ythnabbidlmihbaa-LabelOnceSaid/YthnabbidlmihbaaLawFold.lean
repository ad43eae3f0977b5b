/- Folding: the plain laws: what is folded stays; parts put together. -/
import Derived.Test.YthnabbidlmihbaaFold
import Derived.Test.YthnabbidlmihbaaLawMap
namespace Go.Proofs.Ythnabbidlmihbaa
open Go.RowKit Go.Gp

theorem made_props (c : Int) (i : Nat) : (madeL c).getD i 0 = 0 ∨ (224 ≤ (madeL c).getD i 0 ∧ (madeL c).getD i 0 ≤ 255 ∧ (madeL c).getD i 0 ≠ 247 ∧ 97 ≤ c ∧ c ≤ 122) := by
  by_cases h7 : i < 7
  · have h' : i = 0 ∨ i = 1 ∨ i = 2 ∨ i = 3 ∨ i = 4 ∨ i = 5 ∨ i = 6 := by omega
    unfold madeL
    rcases h' with rfl | rfl | rfl | rfl | rfl | rfl | rfl <;> repeat' split
    all_goals first | (left; rfl) | (right; subst_vars; decide)
  · left
    rw [List.getD_eq_getElem?_getD, List.getElem?_eq_none (by rw [madeL_length]; omega)]
    rfl
theorem pair_props (u c : Int) : pairR u c = 0 ∨ (224 ≤ pairR u c ∧ pairR u c ≤ 255 ∧ pairR u c ≠ 247 ∧ 97 ≤ u ∧ u ≤ 122) := by
  unfold pairR
  split
  · exact .inl rfl
  · exact made_props u _
theorem pair_low {u c : Int} (h : c < 768) : pairR u c = 0 := by
  have hb := markAt_bd c
  unfold pairR
  rw [if_pos (by omega)]

theorem addR_nil (c : Int) : addR [] c = [c] := rfl
theorem addR_end (t : List Int) (u c : Int) : addR (t ++ [u]) c = if pairR u c ≠ 0 then t ++ [pairR u c] else t ++ [u] ++ [c] := by
  have e : (t ++ [u]).getD ((t ++ [u]).length - 1) 0 = u := by simp
  unfold addR
  rw [e]
  by_cases h : pairR u c ≠ 0
  · rw [if_pos ⟨by simp, h⟩, if_pos h]
    simp
  · rw [if_neg (fun x => h x.2), if_neg h]
theorem addR_low (s : List Int) {c : Int} (h : c < 768) : addR s c = s ++ [c] := by
  rcases List.eq_nil_or_concat s with rfl | ⟨t, u, rfl⟩
  · rfl
  · rw [List.concat_eq_append, addR_end, if_neg (by rw [pair_low h]; exact fun x => x rfl)]

/-- Letters and marks put together once more, behind others: the same. -/
theorem foldl_comp (l : List Int) : ∀ s : List Int, (compR l).foldl addR s = l.foldl addR s := by
  have key : ∀ n (l : List Int), l.length = n → ∀ s : List Int, (compR l).foldl addR s = l.foldl addR s := by
    intro n
    induction n with
    | zero => intro l hl s; cases l with | nil => rfl | cons a b => simp at hl
    | succ n ih =>
      intro l hl s
      rcases List.eq_nil_or_concat l with rfl | ⟨k, c, rfl⟩
      · rfl
      · rw [List.concat_eq_append] at hl ⊢
        have hk := ih k (by simpa using hl) s
        rw [compR_snoc, List.foldl_append, List.foldl_cons, List.foldl_nil, ← hk]
        rcases List.eq_nil_or_concat (compR k) with e | ⟨t, u, e⟩
        · rw [e]; rfl
        · rw [e, List.concat_eq_append, addR_end]
          by_cases h : pairR u c ≠ 0
          · have hp := pair_props u c
            rw [if_pos h, List.foldl_append, List.foldl_append, List.foldl_cons, List.foldl_nil, List.foldl_cons, List.foldl_nil, addR_low (c := pairR u c) _ (by omega), addR_low (c := u) _ (by omega), addR_end, if_pos h]
          · rw [if_neg h, List.foldl_append, List.foldl_cons, List.foldl_nil]
  exact key l.length l rfl
theorem comp_comp (l : List Int) : compR (compR l) = compR l := foldl_comp l []
theorem comp_join (x y : List Int) : compR (compR x ++ compR y) = compR (x ++ y) := by
  show (compR x ++ compR y).foldl addR [] = (x ++ y).foldl addR []
  rw [List.foldl_append, List.foldl_append, foldl_comp y]
  congr 1
  exact foldl_comp x []

/-- What every mapping leaves alone. -/
abbrev Fx (c : Int) : Prop := ¬ (Bar1 c ∨ Bar2 c) ∧ ¬ (c = 173 ∨ c = 8203 ∨ c = 8288 ∨ c = 65279) ∧ ¬ (c = 12290 ∨ c = 65377) ∧ ¬ (65281 ≤ c ∧ c ≤ 65374) ∧
  ¬ ((65 ≤ c ∧ c ≤ 90) ∨ (192 ≤ c ∧ c ≤ 222 ∧ c ≠ 215) ∨ (913 ≤ c ∧ c ≤ 937 ∧ c ≠ 930) ∨ (1040 ≤ c ∧ c ≤ 1071)) ∧ ¬ (1024 ≤ c ∧ c ≤ 1039) ∧ c ≠ 7838
theorem Fx.map {c : Int} (h : Fx c) : mapP c = ([c], true) := by
  obtain ⟨h1, h2, h3, h4, h5, h6, h7⟩ := h
  rw [map_law c (by omega) (by omega), rb_plain h1 h2 h3 h4, r1_no h5 h6 h7, Int.add_zero]
theorem refMap1_fx {c : Int} (h : Fx c ∨ (¬ (Bar1 c ∨ Bar2 c) ∧ ¬ (c = 173 ∨ c = 8203 ∨ c = 8288 ∨ c = 65279) ∧ ¬ (c = 12290 ∨ c = 65377) ∧ ¬ (65281 ≤ c ∧ c ≤ 65374))) : ∀ x ∈ refMap1 c, Fx x := by
  intro x hx
  unfold refMap1 at hx
  split at hx
  · simp only [List.mem_singleton] at hx
    subst hx
    refine ⟨?_, ?_, ?_, ?_, ?_, ?_, ?_⟩ <;> omega
  · split at hx
    · simp only [List.mem_singleton] at hx
      subst hx
      refine ⟨?_, ?_, ?_, ?_, ?_, ?_, ?_⟩ <;> omega
    · split at hx
      · simp only [List.mem_cons, List.not_mem_nil, or_false] at hx
        have : x = 115 := by omega
        subst this
        decide
      · simp only [List.mem_singleton] at hx
        subst hx
        refine ⟨?_, ?_, ?_, ?_, ?_, ?_, ?_⟩ <;> omega
theorem mapP_fx {c : Int} (h1 : -2147483648 ≤ c) (h2 : c ≤ 2147483647) : ∀ x ∈ (mapP c).1, Fx x := by
  intro x hx
  rw [map_law c h1 h2] at hx
  by_cases b : Bar1 c ∨ Bar2 c
  · rw [rb_bar b] at hx
    simp at hx
  · by_cases d : c = 173 ∨ c = 8203 ∨ c = 8288 ∨ c = 65279
    · rw [rb_drop b d] at hx
      simp at hx
    · by_cases o : c = 12290 ∨ c = 65377
      · rw [rb_dot b d o] at hx
        simp only [List.mem_singleton] at hx
        subst hx
        decide
      · by_cases w : 65281 ≤ c ∧ c ≤ 65374
        · rw [rb_wide b d o w] at hx
          exact refMap1_fx (.inr ⟨by omega, by omega, by omega, by omega⟩) x hx
        · rw [rb_plain b d o w] at hx
          exact refMap1_fx (.inr ⟨b, d, o, w⟩) x hx
theorem mapAll_fx {l : List Int} (h : ∀ c ∈ l, -2147483648 ≤ c ∧ c ≤ 2147483647) : ∀ x ∈ mapAll l, Fx x := by
  intro x hx
  obtain ⟨c, hc, hx⟩ := List.mem_flatMap.1 hx
  exact mapP_fx (h c hc).1 (h c hc).2 x hx
theorem addR_fx {s : List Int} {c : Int} (hs : ∀ x ∈ s, Fx x) (hc : Fx c) : ∀ x ∈ addR s c, Fx x := by
  rcases List.eq_nil_or_concat s with rfl | ⟨t, u, rfl⟩
  · intro x hx
    rw [addR_nil, List.mem_singleton] at hx
    subst hx
    exact hc
  · rw [List.concat_eq_append] at hs ⊢
    rw [addR_end]
    split
    · rename_i hne
      intro x hx
      rcases List.mem_append.1 hx with hx | hx
      · exact hs x (by simp [hx])
      · rw [List.mem_singleton] at hx
        have hp := pair_props u c
        subst hx
        refine ⟨?_, ?_, ?_, ?_, ?_, ?_, ?_⟩ <;> omega
    · intro x hx
      rcases List.mem_append.1 hx with hx | hx
      · exact hs x hx
      · rw [List.mem_singleton] at hx
        subst hx
        exact hc
theorem foldl_fx (l : List Int) : ∀ s : List Int, (∀ x ∈ s, Fx x) → (∀ x ∈ l, Fx x) → ∀ x ∈ l.foldl addR s, Fx x := by
  induction l with
  | nil => intro s hs _; exact hs
  | cons c l ih => intro s hs hl; exact ih _ (addR_fx hs (hl c (by simp))) (fun x hx => hl x (by simp [hx]))
theorem compR_fx {l : List Int} (h : ∀ x ∈ l, Fx x) : ∀ x ∈ compR l, Fx x := foldl_fx l [] (by simp) h
theorem fx_okAll {l : List Int} (h : ∀ x ∈ l, Fx x) : okAll l = true := by
  rw [okAll, List.all_eq_true]
  intro x hx
  rw [(h x hx).map]
theorem fx_mapAll {l : List Int} (h : ∀ x ∈ l, Fx x) : mapAll l = l := by
  induction l with
  | nil => rfl
  | cons c l ih =>
    have := ih (fun x hx => h x (by simp [hx]))
    unfold mapAll at this ⊢
    rw [List.flatMap_cons, this, (h c (by simp)).map]
    rfl
theorem mapAll_append (a b : List Int) : mapAll (a ++ b) = mapAll a ++ mapAll b := by simp [mapAll]
theorem okAll_append (a b : List Int) : okAll (a ++ b) = (okAll a && okAll b) := by simp [okAll]

/-- What is folded is folded to itself. -/
theorem fold_once {l : List Int} (h : ∀ c ∈ l, -2147483648 ≤ c ∧ c ≤ 2147483647) : okAll (compR (mapAll l)) = true ∧ compR (mapAll (compR (mapAll l))) = compR (mapAll l) := by
  have hf := compR_fx (mapAll_fx h)
  exact ⟨fx_okAll hf, by rw [fx_mapAll hf, comp_comp]⟩
/-- Parts fold as each for itself, put together. -/
theorem fold_joins (a b : List Int) : compR (compR (mapAll a) ++ compR (mapAll b)) = compR (mapAll (a ++ b)) := by rw [mapAll_append, comp_join]
theorem comp_low {l : List Int} (h : ∀ x ∈ l, x < 768) : ∀ s : List Int, l.foldl addR s = s ++ l := by
  induction l with
  | nil => intro s; simp
  | cons c l ih =>
    intro s
    rw [List.foldl_cons, addR_low s (h c (by simp)), ih (fun x hx => h x (by simp [hx]))]
    simp
theorem refMap_short (c : Int) (h1 : -2147483648 ≤ c) (h2 : c ≤ 2147483647) : (refMap c).1.length ≤ 2 := by rw [← map_law c h1 h2]; exact mapP_short c
theorem R32.of_mem {l : List Int} (h : ∀ n ∈ l, -2147483648 ≤ n ∧ n ≤ 2147483647) : R32 l := fun i hi => h _ (by simp [hi])
theorem Fx.r32 {l : List Int} (h : ∀ n ∈ l, Fx n) : R32 l := R32.of_mem fun n hn => by
  have := h n hn
  obtain ⟨h1, _⟩ := this
  omega
end Go.Proofs.Ythnabbidlmihbaa
