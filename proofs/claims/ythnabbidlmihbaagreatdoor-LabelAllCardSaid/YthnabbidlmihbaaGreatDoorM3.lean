/- Contracts and laws, part 3 of 3: what each function of the program computes. -/
import Derived.Laws.IdiomCopy
import Derived.DataElems
import Derived.ProofKit
import Derived.Test.YthnabbidlmihbaaGreatDoorM2
/- What fold.Map and the document's Map answer is the same: the plain law. -/
namespace Go.Proofs.YthnabbidlmihbaaGreatDoor
open Go.RowKit Go.Gp

theorem do_all (c : Int) : (∃ i, i < 28 ∧ inSp (sp i) c = true ∧ doOf c = (sp i).2.2) ∨ ((∀ j, j < 28 → inSp (sp j) c = false) ∧ doOf c = 0) := by
  by_cases h : ∀ j, j < 28 → inSp (sp j) c = false
  · exact .inr ⟨h, doOf_no h⟩
  · rcases doOf_cases c with h1 | h1
    · exact .inl h1
    · refine .inr ⟨fun j hj => ?_, h1⟩
      cases hb : inSp (sp j) c with
      | false => rfl
      | true =>
        exfalso
        have : ∀ i, i < 28 → inSp (sp i) c = true → ∃ k, k < 28 ∧ inSp (sp k) c = true ∧ ∀ j, j < k → inSp (sp j) c = false := by
          intro i
          induction i using Nat.strongRecOn with
          | _ i ih =>
            intro hi h
            by_cases hj : ∃ j, j < i ∧ inSp (sp j) c = true
            · obtain ⟨j, hj, hj'⟩ := hj
              exact ih j hj (by omega) hj'
            · exact ⟨i, hi, h, fun j hj1 => by
                cases hb : inSp (sp j) c with
                | false => rfl
                | true => exact absurd ⟨j, hj1, hb⟩ hj⟩
        obtain ⟨k, k1, k2, k3⟩ := this j hj hb
        have e := doOf_at k1 k3 k2
        rw [h1] at e
        have h' : k = 0 ∨ k = 1 ∨ k = 2 ∨ k = 3 ∨ k = 4 ∨ k = 5 ∨ k = 6 ∨ k = 7 ∨ k = 8 ∨ k = 9 ∨ k = 10 ∨ k = 11 ∨ k = 12 ∨ k = 13 ∨ k = 14 ∨ k = 15 ∨ k = 16 ∨ k = 17 ∨ k = 18 ∨ k = 19 ∨ k = 20 ∨ k = 21 ∨ k = 22 ∨ k = 23 ∨ k = 24 ∨ k = 25 ∨ k = 26 ∨ k = 27 := by omega
        rcases h' with rfl | rfl | rfl | rfl | rfl | rfl | rfl | rfl | rfl | rfl | rfl | rfl | rfl | rfl | rfl | rfl | rfl | rfl | rfl | rfl | rfl | rfl | rfl | rfl | rfl | rfl | rfl | rfl
        all_goals exact absurd e (by decide)

theorem rb_bar {c : Int} (h : Bar1 c ∨ Bar2 c) : refMap c = ([], false) := by simp [refMap, barR_t h]
theorem rb_drop {c : Int} (h : ¬ (Bar1 c ∨ Bar2 c)) (h2 : c = 173 ∨ c = 8203 ∨ c = 8288 ∨ c = 65279) : refMap c = ([], true) := by
  rw [refMap, barR_f h, if_neg (by decide), if_pos h2]
theorem rb_dot {c : Int} (h : ¬ (Bar1 c ∨ Bar2 c)) (h2 : ¬ (c = 173 ∨ c = 8203 ∨ c = 8288 ∨ c = 65279)) (h3 : c = 12290 ∨ c = 65377) : refMap c = ([46], true) := by
  rw [refMap, barR_f h, if_neg (by decide), if_neg h2, if_pos h3]
theorem rb_wide {c : Int} (h : ¬ (Bar1 c ∨ Bar2 c)) (h2 : ¬ (c = 173 ∨ c = 8203 ∨ c = 8288 ∨ c = 65279)) (h3 : ¬ (c = 12290 ∨ c = 65377)) (h4 : 65281 ≤ c ∧ c ≤ 65374) : refMap c = (refMap1 (c - 65248), true) := by
  rw [refMap, barR_f h, if_neg (by decide), if_neg h2, if_neg h3, if_pos h4]
theorem rb_plain {c : Int} (h : ¬ (Bar1 c ∨ Bar2 c)) (h2 : ¬ (c = 173 ∨ c = 8203 ∨ c = 8288 ∨ c = 65279)) (h3 : ¬ (c = 12290 ∨ c = 65377)) (h4 : ¬ (65281 ≤ c ∧ c ≤ 65374)) : refMap c = (refMap1 c, true) := by
  rw [refMap, barR_f h, if_neg (by decide), if_neg h2, if_neg h3, if_neg h4]
theorem r1_up {c : Int} (h : (65 ≤ c ∧ c ≤ 90) ∨ (192 ≤ c ∧ c ≤ 222 ∧ c ≠ 215) ∨ (913 ≤ c ∧ c ≤ 937 ∧ c ≠ 930) ∨ (1040 ≤ c ∧ c ≤ 1071)) : refMap1 c = [c + 32] := by rw [refMap1, if_pos h]
theorem r1_up2 {c : Int} (h : 1024 ≤ c ∧ c ≤ 1039) : refMap1 c = [c + 80] := by rw [refMap1, if_neg (by omega), if_pos h]
theorem r1_no {c : Int} (h : ¬ ((65 ≤ c ∧ c ≤ 90) ∨ (192 ≤ c ∧ c ≤ 222 ∧ c ≠ 215) ∨ (913 ≤ c ∧ c ≤ 937 ∧ c ≠ 930) ∨ (1040 ≤ c ∧ c ≤ 1071))) (h2 : ¬ (1024 ≤ c ∧ c ≤ 1039)) (h3 : c ≠ 7838) : refMap1 c = [c + 0] := by rw [refMap1, if_neg h, if_neg h2, if_neg h3, Int.add_zero]

theorem map1_bar (c : Int) : map1 c (-1) = ([], false) := rfl
theorem map1_drop (c : Int) : map1 c (-2) = ([], true) := rfl
theorem map1_dot (c : Int) : map1 c (-3) = ([46], true) := rfl
theorem mapP_of {c d : Int} (h : doOf c = d) (hd : d ≠ -4) : mapP c = map1 c d := by rw [mapP, h, if_neg hd]

set_option maxHeartbeats 1000000 in
theorem map_law (c : Int) (h1 : -2147483648 ≤ c) (h2 : c ≤ 2147483647) : mapP c = refMap c := by
  rcases do_all c with ⟨k, hk, hi, e⟩ | ⟨hn, e⟩
  · have h' : k = 0 ∨ k = 1 ∨ k = 2 ∨ k = 3 ∨ k = 4 ∨ k = 5 ∨ k = 6 ∨ k = 7 ∨ k = 8 ∨ k = 9 ∨ k = 10 ∨ k = 11 ∨ k = 12 ∨ k = 13 ∨ k = 14 ∨ k = 15 ∨ k = 16 ∨ k = 17 ∨ k = 18 ∨ k = 19 ∨ k = 20 ∨ k = 21 ∨ k = 22 ∨ k = 23 ∨ k = 24 ∨ k = 25 ∨ k = 26 ∨ k = 27 := by omega
    rcases h' with rfl | rfl | rfl | rfl | rfl | rfl | rfl | rfl | rfl | rfl | rfl | rfl | rfl | rfl | rfl | rfl | rfl | rfl | rfl | rfl | rfl | rfl | rfl | rfl | rfl | rfl | rfl | rfl
    all_goals (simp [inSp, sp, spanList] at hi e)
    all_goals
      first
      | (rw [mapP_of e (by decide), rb_bar (by omega)]; rfl)
      | (rw [mapP_of e (by decide), rb_drop (by omega) (by omega)]; rfl)
      | (rw [mapP_of e (by decide), rb_dot (by omega) (by omega) (by omega)]; rfl)
      | (rw [mapP_of e (by decide), rb_plain (by omega) (by omega) (by omega) (by omega), r1_up (by omega)]; rfl)
      | (rw [mapP_of e (by decide), rb_plain (by omega) (by omega) (by omega) (by omega), r1_up2 (by omega)]; rfl)
      | (rw [mapP_of e (by decide), show c = 7838 by omega]; decide +kernel)
      | skip
    · rw [rb_wide (by omega) (by omega) (by omega) (by omega), mapP, e, if_pos rfl, small_do (by omega) (by omega)]
      by_cases hq : c - 65248 ≤ 90 ∧ 65 ≤ c - 65248
      · rw [if_pos hq, r1_up (by omega)]; rfl
      · rw [if_neg hq, r1_no (by omega) (by omega) (by omega)]; rfl
  · have g : ∀ j, j < 28 → ¬ ((sp j).1 ≤ c ∧ c ≤ (sp j).2.1) := fun j hj h => by
      have := hn j hj
      simp [inSp, h.1, h.2] at this
    have g0 := g 0 (by decide)
    have g1 := g 1 (by decide)
    have g2 := g 2 (by decide)
    have g3 := g 3 (by decide)
    have g4 := g 4 (by decide)
    have g5 := g 5 (by decide)
    have g6 := g 6 (by decide)
    have g7 := g 7 (by decide)
    have g8 := g 8 (by decide)
    have g9 := g 9 (by decide)
    have g10 := g 10 (by decide)
    have g11 := g 11 (by decide)
    have g12 := g 12 (by decide)
    have g13 := g 13 (by decide)
    have g14 := g 14 (by decide)
    have g15 := g 15 (by decide)
    have g16 := g 16 (by decide)
    have g17 := g 17 (by decide)
    have g18 := g 18 (by decide)
    have g19 := g 19 (by decide)
    have g20 := g 20 (by decide)
    have g21 := g 21 (by decide)
    have g22 := g 22 (by decide)
    have g23 := g 23 (by decide)
    have g24 := g 24 (by decide)
    have g25 := g 25 (by decide)
    have g26 := g 26 (by decide)
    have g27 := g 27 (by decide)
    simp only [sp, spanList, List.getD_eq_getElem?_getD, List.getElem?_cons_zero, List.getElem?_cons_succ, Option.getD_some] at g0 g1 g2 g3 g4 g5 g6 g7 g8 g9 g10 g11 g12 g13 g14 g15 g16 g17 g18 g19 g20 g21 g22 g23 g24 g25 g26 g27
    clear hn g
    rw [mapP_of e (by decide), rb_plain (by omega) (by omega) (by omega) (by omega), r1_no (by omega) (by omega) (by omega)]
    rfl
end Go.Proofs.YthnabbidlmihbaaGreatDoor

/- Folding: the plain laws: what is folded stays; parts put together. -/
namespace Go.Proofs.YthnabbidlmihbaaGreatDoor
open Go.RowKit Go.Gp

theorem made_props (c : Int) (i : Nat) : (madeL c).getD i 0 = 0 ∨ (224 ≤ (madeL c).getD i 0 ∧ (madeL c).getD i 0 ≤ 255 ∧ (madeL c).getD i 0 ≠ 247 ∧ 97 ≤ c ∧ c ≤ 122) := by
  by_cases h7 : i < 7
  · have h' : i = 0 ∨ i = 1 ∨ i = 2 ∨ i = 3 ∨ i = 4 ∨ i = 5 ∨ i = 6 := by omega
    unfold madeL
    rcases h' with rfl | rfl | rfl | rfl | rfl | rfl | rfl <;> repeat' split
    all_goals first | (left; rfl) | (right; subst_vars; decide)
  · left
    rw [List.getD_eq_getElem?_getD, List.getElem?_eq_none (by rw [madeL_length]; omega)]
    rfl
theorem pair_props (u c : Int) : pairR u c = 0 ∨ (224 ≤ pairR u c ∧ pairR u c ≤ 255 ∧ pairR u c ≠ 247 ∧ 97 ≤ u ∧ u ≤ 122) := by
  unfold pairR
  split
  · exact .inl rfl
  · exact made_props u _
theorem pair_low {u c : Int} (h : c < 768) : pairR u c = 0 := by
  have hb := markAt_bd c
  unfold pairR
  rw [if_pos (by omega)]

theorem addR_nil (c : Int) : addR [] c = [c] := rfl
theorem addR_end (t : List Int) (u c : Int) : addR (t ++ [u]) c = if pairR u c ≠ 0 then t ++ [pairR u c] else t ++ [u] ++ [c] := by
  have e : (t ++ [u]).getD ((t ++ [u]).length - 1) 0 = u := by simp
  unfold addR
  rw [e]
  by_cases h : pairR u c ≠ 0
  · rw [if_pos ⟨by simp, h⟩, if_pos h]
    simp
  · rw [if_neg (fun x => h x.2), if_neg h]
theorem addR_low (s : List Int) {c : Int} (h : c < 768) : addR s c = s ++ [c] := by
  rcases List.eq_nil_or_concat s with rfl | ⟨t, u, rfl⟩
  · rfl
  · rw [List.concat_eq_append, addR_end, if_neg (by rw [pair_low h]; exact fun x => x rfl)]

/-- Letters and marks put together once more, behind others: the same. -/
theorem foldl_comp (l : List Int) : ∀ s : List Int, (compR l).foldl addR s = l.foldl addR s := by
  have key : ∀ n (l : List Int), l.length = n → ∀ s : List Int, (compR l).foldl addR s = l.foldl addR s := by
    intro n
    induction n with
    | zero => intro l hl s; cases l with | nil => rfl | cons a b => simp at hl
    | succ n ih =>
      intro l hl s
      rcases List.eq_nil_or_concat l with rfl | ⟨k, c, rfl⟩
      · rfl
      · rw [List.concat_eq_append] at hl ⊢
        have hk := ih k (by simpa using hl) s
        rw [compR_snoc, List.foldl_append, List.foldl_cons, List.foldl_nil, ← hk]
        rcases List.eq_nil_or_concat (compR k) with e | ⟨t, u, e⟩
        · rw [e]; rfl
        · rw [e, List.concat_eq_append, addR_end]
          by_cases h : pairR u c ≠ 0
          · have hp := pair_props u c
            rw [if_pos h, List.foldl_append, List.foldl_append, List.foldl_cons, List.foldl_nil, List.foldl_cons, List.foldl_nil, addR_low (c := pairR u c) _ (by omega), addR_low (c := u) _ (by omega), addR_end, if_pos h]
          · rw [if_neg h, List.foldl_append, List.foldl_cons, List.foldl_nil]
  exact key l.length l rfl
theorem comp_comp (l : List Int) : compR (compR l) = compR l := foldl_comp l []
theorem comp_join (x y : List Int) : compR (compR x ++ compR y) = compR (x ++ y) := by
  show (compR x ++ compR y).foldl addR [] = (x ++ y).foldl addR []
  rw [List.foldl_append, List.foldl_append, foldl_comp y]
  congr 1
  exact foldl_comp x []

/-- What every mapping leaves alone. -/
abbrev Fx (c : Int) : Prop := ¬ (Bar1 c ∨ Bar2 c) ∧ ¬ (c = 173 ∨ c = 8203 ∨ c = 8288 ∨ c = 65279) ∧ ¬ (c = 12290 ∨ c = 65377) ∧ ¬ (65281 ≤ c ∧ c ≤ 65374) ∧
  ¬ ((65 ≤ c ∧ c ≤ 90) ∨ (192 ≤ c ∧ c ≤ 222 ∧ c ≠ 215) ∨ (913 ≤ c ∧ c ≤ 937 ∧ c ≠ 930) ∨ (1040 ≤ c ∧ c ≤ 1071)) ∧ ¬ (1024 ≤ c ∧ c ≤ 1039) ∧ c ≠ 7838
theorem Fx.map {c : Int} (h : Fx c) : mapP c = ([c], true) := by
  obtain ⟨h1, h2, h3, h4, h5, h6, h7⟩ := h
  rw [map_law c (by omega) (by omega), rb_plain h1 h2 h3 h4, r1_no h5 h6 h7, Int.add_zero]
theorem refMap1_fx {c : Int} (h : Fx c ∨ (¬ (Bar1 c ∨ Bar2 c) ∧ ¬ (c = 173 ∨ c = 8203 ∨ c = 8288 ∨ c = 65279) ∧ ¬ (c = 12290 ∨ c = 65377) ∧ ¬ (65281 ≤ c ∧ c ≤ 65374))) : ∀ x ∈ refMap1 c, Fx x := by
  intro x hx
  unfold refMap1 at hx
  split at hx
  · simp only [List.mem_singleton] at hx
    subst hx
    refine ⟨?_, ?_, ?_, ?_, ?_, ?_, ?_⟩ <;> omega
  · split at hx
    · simp only [List.mem_singleton] at hx
      subst hx
      refine ⟨?_, ?_, ?_, ?_, ?_, ?_, ?_⟩ <;> omega
    · split at hx
      · simp only [List.mem_cons, List.not_mem_nil, or_false] at hx
        have : x = 115 := by omega
        subst this
        decide
      · simp only [List.mem_singleton] at hx
        subst hx
        refine ⟨?_, ?_, ?_, ?_, ?_, ?_, ?_⟩ <;> omega
theorem mapP_fx {c : Int} (h1 : -2147483648 ≤ c) (h2 : c ≤ 2147483647) : ∀ x ∈ (mapP c).1, Fx x := by
  intro x hx
  rw [map_law c h1 h2] at hx
  by_cases b : Bar1 c ∨ Bar2 c
  · rw [rb_bar b] at hx
    simp at hx
  · by_cases d : c = 173 ∨ c = 8203 ∨ c = 8288 ∨ c = 65279
    · rw [rb_drop b d] at hx
      simp at hx
    · by_cases o : c = 12290 ∨ c = 65377
      · rw [rb_dot b d o] at hx
        simp only [List.mem_singleton] at hx
        subst hx
        decide
      · by_cases w : 65281 ≤ c ∧ c ≤ 65374
        · rw [rb_wide b d o w] at hx
          exact refMap1_fx (.inr ⟨by omega, by omega, by omega, by omega⟩) x hx
        · rw [rb_plain b d o w] at hx
          exact refMap1_fx (.inr ⟨b, d, o, w⟩) x hx
theorem mapAll_fx {l : List Int} (h : ∀ c ∈ l, -2147483648 ≤ c ∧ c ≤ 2147483647) : ∀ x ∈ mapAll l, Fx x := by
  intro x hx
  obtain ⟨c, hc, hx⟩ := List.mem_flatMap.1 hx
  exact mapP_fx (h c hc).1 (h c hc).2 x hx
theorem addR_fx {s : List Int} {c : Int} (hs : ∀ x ∈ s, Fx x) (hc : Fx c) : ∀ x ∈ addR s c, Fx x := by
  rcases List.eq_nil_or_concat s with rfl | ⟨t, u, rfl⟩
  · intro x hx
    rw [addR_nil, List.mem_singleton] at hx
    subst hx
    exact hc
  · rw [List.concat_eq_append] at hs ⊢
    rw [addR_end]
    split
    · rename_i hne
      intro x hx
      rcases List.mem_append.1 hx with hx | hx
      · exact hs x (by simp [hx])
      · rw [List.mem_singleton] at hx
        have hp := pair_props u c
        subst hx
        refine ⟨?_, ?_, ?_, ?_, ?_, ?_, ?_⟩ <;> omega
    · intro x hx
      rcases List.mem_append.1 hx with hx | hx
      · exact hs x hx
      · rw [List.mem_singleton] at hx
        subst hx
        exact hc
theorem foldl_fx (l : List Int) : ∀ s : List Int, (∀ x ∈ s, Fx x) → (∀ x ∈ l, Fx x) → ∀ x ∈ l.foldl addR s, Fx x := by
  induction l with
  | nil => intro s hs _; exact hs
  | cons c l ih => intro s hs hl; exact ih _ (addR_fx hs (hl c (by simp))) (fun x hx => hl x (by simp [hx]))
theorem compR_fx {l : List Int} (h : ∀ x ∈ l, Fx x) : ∀ x ∈ compR l, Fx x := foldl_fx l [] (by simp) h
theorem fx_okAll {l : List Int} (h : ∀ x ∈ l, Fx x) : okAll l = true := by
  rw [okAll, List.all_eq_true]
  intro x hx
  rw [(h x hx).map]
theorem fx_mapAll {l : List Int} (h : ∀ x ∈ l, Fx x) : mapAll l = l := by
  induction l with
  | nil => rfl
  | cons c l ih =>
    have := ih (fun x hx => h x (by simp [hx]))
    unfold mapAll at this ⊢
    rw [List.flatMap_cons, this, (h c (by simp)).map]
    rfl
theorem mapAll_append (a b : List Int) : mapAll (a ++ b) = mapAll a ++ mapAll b := by simp [mapAll]
theorem okAll_append (a b : List Int) : okAll (a ++ b) = (okAll a && okAll b) := by simp [okAll]

/-- What is folded is folded to itself. -/
theorem fold_once {l : List Int} (h : ∀ c ∈ l, -2147483648 ≤ c ∧ c ≤ 2147483647) : okAll (compR (mapAll l)) = true ∧ compR (mapAll (compR (mapAll l))) = compR (mapAll l) := by
  have hf := compR_fx (mapAll_fx h)
  exact ⟨fx_okAll hf, by rw [fx_mapAll hf, comp_comp]⟩
/-- Parts fold as each for itself, put together. -/
theorem fold_joins (a b : List Int) : compR (compR (mapAll a) ++ compR (mapAll b)) = compR (mapAll (a ++ b)) := by rw [mapAll_append, comp_join]
theorem comp_low {l : List Int} (h : ∀ x ∈ l, x < 768) : ∀ s : List Int, l.foldl addR s = s ++ l := by
  induction l with
  | nil => intro s; simp
  | cons c l ih =>
    intro s
    rw [List.foldl_cons, addR_low s (h c (by simp)), ih (fun x hx => h x (by simp [hx]))]
    simp
theorem refMap_short (c : Int) (h1 : -2147483648 ≤ c) (h2 : c ≤ 2147483647) : (refMap c).1.length ≤ 2 := by rw [← map_law c h1 h2]; exact mapP_short c
theorem R32.of_mem {l : List Int} (h : ∀ n ∈ l, -2147483648 ≤ n ∧ n ≤ 2147483647) : R32 l := fun i hi => h _ (by simp [hi])
theorem Fx.r32 {l : List Int} (h : ∀ n ∈ l, Fx n) : R32 l := R32.of_mem fun n hn => by
  have := h n hn
  obtain ⟨h1, _⟩ := this
  omega
end Go.Proofs.YthnabbidlmihbaaGreatDoor

/- The document's made, Compose, Fold of layer 5: the walks. -/
namespace Go.Proofs.YthnabbidlmihbaaGreatDoor
open Go.RowKit Go.Gp

def rLetters : List Int := [224, 225, 226, 227, 228, 229, 231, 232, 233, 234, 235, 236, 237, 238, 239, 241, 242, 243, 244, 245, 246, 249, 250, 251, 252, 253, 255]
def rOf : List Int := [97, 97, 97, 97, 97, 97, 99, 101, 101, 101, 101, 105, 105, 105, 105, 110, 111, 111, 111, 111, 111, 117, 117, 117, 117, 121, 121]
def rBy : List Int := [768, 769, 770, 771, 776, 778, 807, 768, 769, 770, 776, 768, 769, 770, 776, 771, 768, 769, 770, 771, 776, 768, 769, 770, 776, 769, 776]
def rOfB : ByteArray := ⟨#[97, 97, 97, 97, 97, 97, 99, 101, 101, 101, 101, 105, 105, 105, 105, 110, 111, 111, 111, 111, 111, 117, 117, 117, 117, 121, 121]⟩
/-- From number i on. -/
def rMadeF (c m : Int) : Nat → Nat → Int
  | _, 0 => 0
  | i, f + 1 => if c = rOf.getD i 0 ∧ m = rBy.getD i 0 then rLetters.getD i 0 else rMadeF c m (i + 1) f
def rMade (c m : Int) : Int := rMadeF c m 0 27
theorem rOfB_at (i : Nat) (h : i < 27) : ∃ v : UInt8, rOfB.data[i]? = some v ∧ ((v.toNat : Nat) : Int) = rOf.getD i 0 := by
  have h' : i = 0 ∨ i = 1 ∨ i = 2 ∨ i = 3 ∨ i = 4 ∨ i = 5 ∨ i = 6 ∨ i = 7 ∨ i = 8 ∨ i = 9 ∨ i = 10 ∨ i = 11 ∨ i = 12 ∨ i = 13 ∨ i = 14 ∨ i = 15 ∨ i = 16 ∨ i = 17 ∨ i = 18 ∨ i = 19 ∨ i = 20 ∨ i = 21 ∨ i = 22 ∨ i = 23 ∨ i = 24 ∨ i = 25 ∨ i = 26 := by omega
  rcases h' with rfl | rfl | rfl | rfl | rfl | rfl | rfl | rfl | rfl | rfl | rfl | rfl | rfl | rfl | rfl | rfl | rfl | rfl | rfl | rfl | rfl | rfl | rfl | rfl | rfl | rfl | rfl
  all_goals exact ⟨_, rfl, rfl⟩
theorem rOf_bd (i : Nat) : 0 ≤ rOf.getD i 0 ∧ rOf.getD i 0 ≤ 255 := by
  by_cases h : i < 27
  · obtain ⟨v, _, e⟩ := rOfB_at i h
    have := v.toNat_lt
    omega
  · rw [List.getD_eq_getElem?_getD, List.getElem?_eq_none (by simp [rOf]; omega)]
    simp
set_option maxRecDepth 100000 in
theorem rmade_spec (c m : Int) (w0 : World) (m0 : List Res) : PureC Tryz.prog 87 [.int .i32 c, .int .i32 m] w0 m0 (.int .i32 (rMade c m)) := by
  refine Ct.of Tryz.func87 rfl (by kernel_rfl) rfl ?_
  (refine c_sq fun k5 h5 => c_rg <| r_as rfl rfl <| r_nx h5 <| c_sq fun k7 h7 => c_rg <| r_bo Tryz.underlying22 rfl (fun _ => by kernel_rfl) rfl rfl rfl (fun _ => ?_); refine r_as rfl rfl <| r_nx h7 <| c_sq fun k10 h10 => c_rg <| r_as rfl rfl <| r_nx h10 <| c_sq fun k12 h12 => c_rg <| r_bo Tryz.underlying22 rfl (fun _ => by kernel_rfl) rfl rfl rfl (fun _ => ?_); refine r_as rfl rfl <| r_nx h12 <| c_sq fun k15 h15 => c_sq fun k17 h17 => c_rg <| r_as rfl rfl <| r_nx h17 <| c_bl ?_; rotate_left)
  rename_i b1 b2
  refine WC.loop (α := Nat) (fun i => [(0, .int .i32 c), (1, .int .i32 m), (8, .int .i64 i), (5, .slice (some ⟨b1, 0, none⟩) 27 27), (6, .string rOfB), (7, .slice (some ⟨b2, 0, none⟩) 27 27)])
    (fun _ => [.own (some ⟨b2, 0, none⟩) 27 27 (runes rBy) 21 1, .own (some ⟨b1, 0, none⟩) 27 27 (runes rLetters) 21 1]) (fun i => i ≤ 27 ∧ rMade c m = rMadeF c m i (27 - i)) (fun i => 27 - i) 0 ⟨by omega, rfl⟩ ⟨rfl, rfl, rfl, rfl, rfl, rfl, trivial⟩ Mem.keep ?_
  rintro i ⟨hi, he⟩
  by_cases hlt : i < 27
  · obtain ⟨v, hv, ev⟩ := rOfB_at i hlt
    have hb := rOf_bd i
    have e27 : 27 - i = (27 - (i + 1)) + 1 := by omega
    rw [e27, rMadeF] at he
    (refine c_sq fun k30 h30 => c_sq fun k32 h32 => c_rg <| r_mv rfl rfl <| r_mv rfl rfl <| r_ls Tryz.underlying22 rfl rfl <| r_ltT rfl rfl rfl (by omega) <| r_nx h32 <| c_cT rfl <| c_sk <| WE.then_n h30 <| c_sq fun k34 h34 => c_bl <| c_sq fun k36 h36 => c_rg <| r_mv rfl rfl <| r_mv rfl rfl <| r_mv rfl rfl ?_; rotate_left)
    refine r_iS (v := v) rfl rfl rfl rfl (by omega) (by simpa using hv) ?_
    rw [ev]
    (refine r_cv rfl (cv_int (k' := .i32) rfl Tryz.underlying21 (w32 (by omega))) rfl ?_; rotate_left)
    by_cases h1 : c = rOf.getD i 0
    · by_cases h2 : m = rBy.getD i 0
      · (refine r_eqT rfl rfl rfl (by omega) <| r_mv rfl rfl <| r_mv rfl rfl <| r_mv rfl rfl <| r_mv rfl rfl ?_; rotate_left)
        refine r_im (xs := rBy) (f := (.int .i32 ·)) (Rd.own 0 rfl) rfl rfl rfl rfl rfl rfl (by omega) (by show (i : Int) < 27; omega) ?_
        (rotate_left)
        refine r_li i (xs := rBy) (Rd.own 0 rfl) rfl rfl rfl rfl (by show i < 27; omega) ?_
        (refine r_eqT rfl rfl rfl (by omega) <| r_pT rfl rfl rfl <| r_nx h36 <| c_cT rfl <| c_sq fun k40 h40 => c_rg <| r_mv rfl rfl <| r_mv rfl rfl ?_; rotate_left)
        refine r_im (xs := rLetters) (f := (.int .i32 ·)) (Rd.own 1 rfl) rfl rfl rfl rfl rfl rfl (by omega) (by show (i : Int) < 27; omega) ?_
        (rotate_left)
        refine r_li i (xs := rLetters) (Rd.own 1 rfl) rfl rfl rfl rfl (by show i < 27; omega) ?_
        (refine r_as rfl rfl <| r_nx h40 <| c_rt <| WE.blk_r <| WE.then_r <| WE.then_r <| WE.blk_r <| WE.then_r ?_; rotate_left)
        exact WE.ret1 () rfl rfl (by rw [he, if_pos ⟨h1, h2⟩]; rfl) trivial Mem.drop
      · (refine r_eqT rfl rfl rfl (by omega) <| r_mv rfl rfl <| r_mv rfl rfl <| r_mv rfl rfl <| r_mv rfl rfl ?_; rotate_left)
        refine r_im (xs := rBy) (f := (.int .i32 ·)) (Rd.own 0 rfl) rfl rfl rfl rfl rfl rfl (by omega) (by show (i : Int) < 27; omega) ?_
        (rotate_left)
        refine r_li i (xs := rBy) (Rd.own 0 rfl) rfl rfl rfl rfl (by show i < 27; omega) ?_
        (refine r_eqF rfl rfl rfl (by omega) <| r_pT rfl rfl rfl <| r_nx h36 <| c_cF rfl <| c_sk <| WE.blk_n <| WE.then_n h34 <| c_rg <| r_mv rfl rfl <| r_ad rfl rfl rfl (wadd64 (by omega)) <| r_as rfl rfl <| r_nl ?_; rotate_left)
        exact WE.back (i + 1) ⟨by omega, by rw [he, if_neg (fun h => h2 h.2)]⟩ (by omega) ⟨rfl, rfl, rfl, rfl, rfl, rfl, trivial⟩ Mem.keep
    · (refine r_eqF rfl rfl rfl (by omega) <| r_mv rfl rfl <| r_sk rfl rfl <| r_sk rfl rfl <| r_sk rfl rfl <| r_sk rfl rfl <| r_sk rfl rfl <| r_sk rfl rfl <| r_pF rfl rfl rfl <| r_nx h36 <| c_cF rfl <| c_sk <| WE.blk_n <| WE.then_n h34 <| c_rg <| r_mv rfl rfl <| r_ad rfl rfl rfl (wadd64 (by omega)) <| r_as rfl rfl <| r_nl ?_; rotate_left)
      exact WE.back (i + 1) ⟨by omega, by rw [he, if_neg (fun h => h1 h.1)]⟩ (by omega) ⟨rfl, rfl, rfl, rfl, rfl, rfl, trivial⟩ Mem.keep
  · (refine c_sq fun k23 h23 => c_sq fun k25 h25 => c_rg <| r_mv rfl rfl <| r_mv rfl rfl <| r_ls Tryz.underlying22 rfl rfl <| r_ltF rfl rfl rfl (by omega) <| r_nx h25 <| c_cF rfl <| c_ex <| WE.then_x <| WE.then_x <| WE.blk_x <| WE.then_n h15 <| c_sq fun k27 h27 => c_rg <| r_as rfl rfl <| r_nx h27 <| c_rt ?_; rotate_left)
    exact WE.ret1 () rfl rfl (by rw [he, show 27 - i = 0 by omega]; rfl) trivial Mem.drop

/-- Letters and marks put together, as the document says. -/
def rComp : List Int → List Int
  | [] => []
  | [x] => [x]
  | x :: y :: r => if rMade x y ≠ 0 then rMade x y :: rComp r else x :: rComp (y :: r)
theorem rComp_two {l : List Int} {i : Nat} (h : i + 1 < l.length) : rComp (l.drop i) = if rMade (l.getD i 0) (l.getD (i + 1) 0) ≠ 0 then rMade (l.getD i 0) (l.getD (i + 1) 0) :: rComp (l.drop (i + 2)) else l.getD i 0 :: rComp (l.drop (i + 1)) := by
  rw [List.drop_eq_getElem_cons (show i < l.length by omega), List.drop_eq_getElem_cons (show i + 1 < l.length by omega), rComp]
  have e1 : l.getD i 0 = l[i] := by simp [show i < l.length by omega]
  have e2 : l.getD (i + 1) 0 = l[i + 1] := by simp [h]
  rw [e1, e2]
theorem rComp_one {l : List Int} {i : Nat} (h : i < l.length) (h2 : ¬ i + 1 < l.length) : rComp (l.drop i) = l.getD i 0 :: rComp (l.drop (i + 1)) := by
  rw [List.drop_eq_getElem_cons h, List.drop_eq_nil_of_le (show l.length ≤ i + 1 by omega)]
  simp [rComp, h]
set_option maxRecDepth 100000 in
theorem rcomp_spec (A : Option Addr) (c : Nat) (l : List Int) (hn : l.length ≤ 1000000000000) (w0 : World) (m0 : List Res) (hA : Rd w0 m0 A (runes l)) :
    Ct (α := Option Addr × Nat) Tryz.prog 67 [.slice A l.length c] w0 [] m0 (fun _ => True) (fun p => SlR p (rComp l)) (fun p => [OwnR p (rComp l)]) := by
  refine Ct.of Tryz.func67 rfl (by kernel_rfl) rfl ?_
  (refine c_sq fun k8 h8 => c_rg <| r_as rfl rfl <| r_nx h8 <| c_sq fun k10 h10 => c_rg <| r_as rfl rfl <| r_nx h10 <| c_sq fun k12 h12 => c_rg <| r_as rfl rfl <| r_nx h12 <| c_sq fun k14 h14 => c_bl ?_; rotate_left)
  refine WC.loop (α := Nat × (Option Addr × Nat) × List Int) (fun x => [(0, .slice A l.length c), (4, .int .i64 x.1), (3, SlR x.2.1 x.2.2)])
    (fun x => [OwnR x.2.1 x.2.2]) (fun x => x.1 ≤ l.length ∧ x.2.2.length ≤ x.1 ∧ x.2.2 ++ rComp (l.drop x.1) = rComp l) (fun x => l.length - x.1) (0, (none, 0), []) ⟨by simp, by simp, rfl⟩ ⟨rfl, rfl, rfl, trivial⟩ (Mem.nilOwn _ _) ?_
  rintro ⟨i, p, out⟩ ⟨hi, ho, he⟩
  dsimp only at hi ho he ⊢
  by_cases hlt : i < l.length
  · by_cases h2 : i + 1 < l.length
    · rw [rComp_two h2] at he
      (refine c_sq fun k25 h25 => c_sq fun k27 h27 => c_rg <| r_mv rfl rfl <| r_mv rfl rfl <| r_ls Tryz.underlying22 rfl rfl <| r_ltT rfl rfl rfl (by omega) <| r_nx h27 <| c_cT rfl <| c_sk <| WE.then_n h25 <| c_bl <| c_sq fun k29 h29 => c_dr rfl (by kernel_rfl) (by kernel_rfl) <| r_mv rfl rfl <| r_ad rfl rfl rfl (wadd64 (by omega)) <| r_mv rfl rfl <| r_ls Tryz.underlying22 rfl rfl <| r_ltT rfl rfl rfl (by omega) <| r_mv rfl rfl <| r_mv rfl rfl <| r_mv rfl rfl <| r_im (hA.app _) Tryz.underlying22 (by kernel_rfl) rfl rfl rfl rfl (by omega) (by omega) <| r_li (i) (hA.app _) Tryz.underlying21 rfl rfl rfl (by omega) <| r_mv rfl rfl <| r_mv rfl rfl <| r_ad rfl rfl rfl (wadd64 (by omega)) <| r_im (hA.app _) Tryz.underlying22 (by kernel_rfl) rfl rfl rfl rfl (by omega) (by omega) <| r_li (i + 1) (hA.app _) Tryz.underlying21 rfl rfl rfl (by omega) ?_; rotate_left)
      refine WX.pure rfl rfl (rmade_spec _ _ _ _) rfl rfl ?_
      by_cases hm : rMade (l.getD i 0) (l.getD (i + 1) 0) = 0
      · rw [hm]
        rw [if_neg (fun x => x hm)] at he
        (refine r_neF rfl rfl rfl (by omega) <| r_pT rfl rfl rfl <| r_nx h29 <| c_cF rfl <| c_sq fun k33 h33 => c_rg <| r_mv rfl rfl <| r_mv rfl rfl <| r_mv rfl rfl <| r_im (hA.app _) Tryz.underlying22 (by kernel_rfl) rfl rfl rfl rfl (by omega) (by omega) <| r_li (i) (hA.app _) Tryz.underlying21 rfl rfl rfl (by omega) <| r_bo Tryz.underlying22 rfl (fun _ => by kernel_rfl) rfl rfl rfl (fun _ => ?_); rotate_left)
        refine r_am (ys := [l.getD i 0]) 1 (z := .int .i32 0) (by_ := 4) (f := (.int .i32 ·)) Tryz.underlying22 (by kernel_rfl) rfl rfl rfl rfl (Rd.own 0 rfl) rfl (fun _ => rfl) (by omega) rfl (fun q _ => ?_)
        (refine r_as rfl rfl <| r_nx h33 <| c_rg <| r_mv rfl rfl <| r_ad rfl rfl rfl (wadd64 (by omega)) <| r_as rfl rfl <| r_nl <| WE.blk_n ?_; rotate_left)
        exact WE.back (i + 1, q, out ++ [l.getD i 0]) ⟨by dsimp only; omega, by simp; omega, by simpa using he⟩ (by dsimp only; omega) ⟨rfl, rfl, rfl, trivial⟩ (Mem.pick [1] (by decide) rfl)
      · rw [if_pos hm] at he
        (refine r_neT rfl rfl rfl (by omega) <| r_pT rfl rfl rfl <| r_nx h29 <| c_cT rfl <| c_sq fun k33 h33 => ?_)
        refine WC.held [] rfl (by kernel_rfl) ?_
        refine WH.take (d := 27) rfl (by kernel_rfl) (Qv.move rfl) rfl rfl rfl Mem.drop ?_
        refine WH.take (d := 28) rfl (by kernel_rfl) (Qv.move rfl) rfl rfl rfl Mem.drop ?_
        refine WH.take (d := 29) rfl (by kernel_rfl) (Qv.move rfl) rfl rfl rfl Mem.drop ?_
        refine WH.take (d := 30) rfl (by kernel_rfl) (Qv.indexMap Tryz.underlying22 (by kernel_rfl) rfl rfl (hA.app _) rfl (by omega) (by omega)) rfl rfl rfl Mem.drop ?_
        refine WH.take (d := 31) (v := .int .i32 (l.getD i 0)) rfl (by kernel_rfl) (Qv.load_rd (i := i) Tryz.underlying21 rfl rfl (hA.app _) (by simp [hlt])) rfl rfl rfl Mem.drop ?_
        refine WH.take (d := 32) rfl (by kernel_rfl) (Qv.move rfl) rfl rfl rfl Mem.drop ?_
        refine WH.take (d := 33) rfl (by kernel_rfl) (Qv.move rfl) rfl rfl rfl Mem.drop ?_
        refine WH.take (d := 34) rfl (by kernel_rfl) (Qv.add rfl rfl (wadd64 (a := (i : Int)) (b := 1) (by omega))) rfl rfl rfl Mem.drop ?_
        refine WH.take (d := 35) rfl (by kernel_rfl) (Qv.indexMap Tryz.underlying22 (by kernel_rfl) rfl rfl (hA.app _) rfl (by omega) (by omega)) rfl rfl rfl Mem.drop ?_
        refine WH.take (d := 36) (v := .int .i32 (l.getD (i + 1) 0)) rfl (by kernel_rfl) (Qv.load_rd (i := i + 1) Tryz.underlying21 rfl rfl (hA.app _) (by simp [h2])) rfl rfl rfl Mem.drop ?_
        refine WH.call (m1 := []) (m2 := [OwnR p out]) rfl (by kernel_rfl) rfl rfl rfl (rmade_spec (l.getD i 0) (l.getD (i + 1) 0) _ _) rfl rfl (fun _ => Mem.drop) (fun _ _ => ?_)
        refine WH.bo rfl (by kernel_rfl) Tryz.underlying22 rfl (fun _ => by kernel_rfl) rfl rfl rfl rfl (fun _ => Mem.drop) (fun b1 => ?_)
        refine WH.am (ys := [rMade (l.getD i 0) (l.getD (i + 1) 0)]) 1 (z := .int .i32 0) (by_ := 4) (f := (.int .i32 ·)) rfl (by kernel_rfl) Tryz.underlying22 (by kernel_rfl) rfl rfl rfl rfl (Rd.own 0 rfl) rfl (fun _ => rfl) (by omega) rfl rfl (fun _ => Mem.drop) (fun q => ?_)
        refine WH.qv (d := 3) rfl (by kernel_rfl) (Qv.assign rfl) rfl rfl rfl Mem.drop ?_
        refine WH.nil rfl (by kernel_rfl) ?_
        (refine WE.then_n h33 <| c_rg <| r_mv rfl rfl <| r_ad rfl rfl rfl (wadd64 (by omega)) <| r_as rfl rfl <| r_nl <| WE.blk_n ?_; rotate_left)
        exact WE.back (i + 2, q, out ++ [rMade (l.getD i 0) (l.getD (i + 1) 0)]) ⟨by dsimp only; omega, by simp; omega, by simpa using he⟩ (by dsimp only; omega) ⟨rfl, rfl, rfl, trivial⟩ (Mem.pick [1] (by decide) rfl)
    · rw [rComp_one hlt h2] at he
      (refine c_sq fun k25 h25 => c_sq fun k27 h27 => c_rg <| r_mv rfl rfl <| r_mv rfl rfl <| r_ls Tryz.underlying22 rfl rfl <| r_ltT rfl rfl rfl (by omega) <| r_nx h27 <| c_cT rfl <| c_sk <| WE.then_n h25 <| c_bl <| c_sq fun k29 h29 => c_dr rfl (by kernel_rfl) (by kernel_rfl) <| r_mv rfl rfl <| r_ad rfl rfl rfl (wadd64 (by omega)) <| r_mv rfl rfl <| r_ls Tryz.underlying22 rfl rfl <| r_ltF rfl rfl rfl (by omega) <| r_mv rfl rfl <| r_sk rfl rfl <| r_sk rfl rfl <| r_sk rfl rfl <| r_sk rfl rfl <| r_sk rfl rfl <| r_sk rfl rfl <| r_sk rfl rfl <| r_sk rfl rfl <| r_sk rfl rfl <| r_sk rfl rfl <| r_sk rfl rfl <| r_pF rfl rfl rfl <| r_nx h29 <| c_cF rfl <| c_sq fun k31 h31 => c_rg <| r_mv rfl rfl <| r_mv rfl rfl <| r_mv rfl rfl <| r_im (hA.app _) Tryz.underlying22 (by kernel_rfl) rfl rfl rfl rfl (by omega) (by omega) <| r_li (i) (hA.app _) Tryz.underlying21 rfl rfl rfl (by omega) <| r_bo Tryz.underlying22 rfl (fun _ => by kernel_rfl) rfl rfl rfl (fun _ => ?_); rotate_left)
      refine r_am (ys := [l.getD i 0]) 1 (z := .int .i32 0) (by_ := 4) (f := (.int .i32 ·)) Tryz.underlying22 (by kernel_rfl) rfl rfl rfl rfl (Rd.own 0 rfl) rfl (fun _ => rfl) (by omega) rfl (fun q _ => ?_)
      (refine r_as rfl rfl <| r_nx h31 <| c_rg <| r_mv rfl rfl <| r_ad rfl rfl rfl (wadd64 (by omega)) <| r_as rfl rfl <| r_nl <| WE.blk_n ?_; rotate_left)
      exact WE.back (i + 1, q, out ++ [l.getD i 0]) ⟨by dsimp only; omega, by simp; omega, by simpa using he⟩ (by dsimp only; omega) ⟨rfl, rfl, rfl, trivial⟩ (Mem.pick [1] (by decide) rfl)
  · have e : l.drop i = [] := List.drop_eq_nil_of_le (by omega)
    rw [e, rComp, List.append_nil] at he
    rw [he]
    (refine c_sq fun k27 h27 => c_sq fun k29 h29 => c_rg <| r_mv rfl rfl <| r_mv rfl rfl <| r_ls Tryz.underlying22 rfl rfl <| r_ltF rfl rfl rfl (by omega) <| r_nx h29 <| c_cF rfl <| c_ex <| WE.then_x <| WE.then_x <| WE.blk_x <| WE.then_n h14 <| c_sq fun k31 h31 => c_rg <| r_mv rfl rfl <| r_as rfl rfl <| r_nx h31 <| c_rt ?_; rotate_left)
    exact WE.ret1 p rfl rfl rfl trivial Mem.keep
end Go.Proofs.YthnabbidlmihbaaGreatDoor

/- The document's Fold of layer 5: the walk; and the plain law: letters and marks put together are the same. -/
namespace Go.Proofs.YthnabbidlmihbaaGreatDoor
open Go.RowKit Go.Gp

def rMapAll (l : List Int) : List Int := l.flatMap fun c => (refMap c).1
def rOkAll (l : List Int) : Bool := l.all fun c => (refMap c).2
theorem rMapAll_eq {l : List Int} (h : ∀ n ∈ l, -2147483648 ≤ n ∧ n ≤ 2147483647) : rMapAll l = mapAll l ∧ rOkAll l = okAll l := by
  induction l with
  | nil => exact ⟨rfl, rfl⟩
  | cons c l ih =>
    obtain ⟨h1, h2⟩ := ih (fun n hn => h n (by simp [hn]))
    have hc := h c (by simp)
    unfold rMapAll mapAll rOkAll okAll at *
    rw [List.flatMap_cons, List.flatMap_cons, List.all_cons, List.all_cons, h1, h2, map_law c hc.1 hc.2]
    exact ⟨rfl, rfl⟩
theorem rMapAll_snoc (l : List Int) (c : Int) : rMapAll (l ++ [c]) = rMapAll l ++ (refMap c).1 := by simp [rMapAll]
theorem rOkAll_snoc (l : List Int) (c : Int) : rOkAll (l ++ [c]) = (rOkAll l && (refMap c).2) := by simp [rOkAll]

set_option maxRecDepth 100000 in
theorem rfold_ok (A : Option Addr) (c : Nat) (l : List Int) (hn : l.length ≤ 1000000000) (hl : ∀ n ∈ l, -2147483648 ≤ n ∧ n ≤ 2147483647) (hok : okAll l = true) (w0 : World) (m0 : List Res) (hA : Rd w0 m0 A (runes l)) :
    Ct (α := Option Addr × Nat) Tryz.prog 32 [.slice A l.length c] w0 [] m0 (fun _ => True) (fun p => .tuple #[SlR p (rComp (mapAll l)), .int .i64 0]) (fun p => [OwnR p (rComp (mapAll l))]) := by
  refine Ct.of Tryz.func32 rfl (by kernel_rfl) rfl ?_
  (refine c_sq fun k10 h10 => c_rg <| r_as rfl rfl <| r_as rfl rfl <| r_nx h10 <| c_sq fun k12 h12 => c_rg <| r_as rfl rfl <| r_nx h12 <| c_sq fun k14 h14 => c_sq fun k16 h16 => c_rg <| r_as rfl rfl <| r_nx h16 <| c_bl ?_; rotate_left)
  refine WC.loop (α := Nat × (Option Addr × Nat)) (fun x => [(0, .slice A l.length c), (5, .int .i64 x.1), (4, SlR x.2 (mapAll (l.take x.1)))])
    (fun x => [OwnR x.2 (mapAll (l.take x.1))]) (fun x => x.1 ≤ l.length) (fun x => l.length - x.1) (0, (none, 0)) (by simp) ⟨rfl, rfl, rfl, trivial⟩ (Mem.nilOwn _ _) ?_
  rintro ⟨i, p⟩ hi
  dsimp only at hi ⊢
  by_cases hlt : i < l.length
  · have hc := mapAll_length (l.take i)
    have hc' : (l.take i).length ≤ i := List.length_take_le _ _
    have hb : -2147483648 ≤ l.getD i 0 ∧ l.getD i 0 ≤ 2147483647 := hl _ (by simp [hlt])
    have hs := refMap_short (l.getD i 0) hb.1 hb.2
    have ht : (refMap (l.getD i 0)).2 = true := by
      rw [← map_law _ hb.1 hb.2]
      exact List.all_eq_true.1 hok _ (by simp [hlt])
    (refine c_sq fun k27 h27 => c_sq fun k29 h29 => c_rg <| r_mv rfl rfl <| r_mv rfl rfl <| r_ls Tryz.underlying22 rfl rfl <| r_ltT rfl rfl rfl (by omega) <| r_nx h29 <| c_cT rfl <| c_sk <| WE.then_n h27 <| c_sq fun k31 h31 => c_bl <| c_sq fun k33 h33 => c_rg <| r_mv rfl rfl <| r_mv rfl rfl <| r_im (hA.app _) Tryz.underlying22 (by kernel_rfl) rfl rfl rfl rfl (by omega) (by omega) <| r_li (i) (hA.app _) Tryz.underlying21 rfl rfl rfl (by omega) ?_; rotate_left)
    refine WX.call (m1 := []) (m2 := [OwnR p (mapAll (l.take i))]) rfl rfl rfl (refmap_spec (l.getD i 0) _ _) rfl rfl (fun q _ => ?_)
    rw [ht]
    (refine r_mv rfl rfl <| r_ex rfl rfl rfl <| r_ex rfl rfl rfl <| r_as rfl rfl <| r_as rfl rfl <| r_nx h33 <| c_sq fun k37 h37 => c_sq fun k39 h39 => c_rg <| r_mv rfl rfl <| r_no rfl rfl rfl <| r_nx h39 <| c_cF rfl <| c_sk <| WE.then_n h37 <| c_rg <| r_mv rfl rfl <| r_mv rfl rfl ?_; rotate_left)
    refine r_am (ys := (refMap (l.getD i 0)).1) 1 (z := .int .i32 0) (by_ := 4) (f := (.int .i32 ·)) Tryz.underlying22 (by kernel_rfl) rfl rfl rfl rfl (Rd.own 0 rfl) rfl (fun _ => rfl) (by omega) rfl (fun r _ => ?_)
    rw [← map_law _ hb.1 hb.2, ← mapAll_snoc, ← take_next hlt]
    (refine r_as rfl rfl <| r_nl <| WE.blk_n <| WE.then_n h31 <| c_rg <| r_mv rfl rfl <| r_ad rfl rfl rfl (wadd64 (by omega)) <| r_as rfl rfl <| r_nl ?_; rotate_left)
    exact WE.back (i + 1, r) (by dsimp only; omega) (by dsimp only; omega) ⟨rfl, rfl, rfl, trivial⟩ (Mem.pick [1] (by decide) rfl)
  · have e : l.take i = l := List.take_of_length_le (by omega)
    rw [e]
    have hm := mapAll_length l
    (refine c_sq fun k24 h24 => c_sq fun k26 h26 => c_rg <| r_mv rfl rfl <| r_mv rfl rfl <| r_ls Tryz.underlying22 rfl rfl <| r_ltF rfl rfl rfl (by omega) <| r_nx h26 <| c_cF rfl <| c_ex <| WE.then_x <| WE.then_x <| WE.blk_x <| WE.then_n h14 <| c_sq fun k28 h28 => c_rg <| r_mv rfl rfl ?_; rotate_left)
    refine WX.call (m1 := []) (m2 := [OwnR p (mapAll l)]) rfl rfl rfl (rcomp_spec p.1 p.2 (mapAll l) (by omega) _ _ (Rd.own 0 rfl)) rfl rfl (fun q _ => ?_)
    (refine r_as rfl rfl <| r_as rfl rfl <| r_nx h28 <| c_rt ?_; rotate_left)
    exact WE.ret2 q rfl rfl rfl rfl rfl trivial (Mem.pick [0] (by decide) rfl)

set_option maxRecDepth 100000 in
theorem rfold_no (A : Option Addr) (c : Nat) (l : List Int) (hn : l.length ≤ 1000000000) (hl : ∀ n ∈ l, -2147483648 ≤ n ∧ n ≤ 2147483647) (hok : okAll l = false) (w0 : World) (m0 : List Res) (hA : Rd w0 m0 A (runes l)) :
    PureC Tryz.prog 32 [.slice A l.length c] w0 m0 (.tuple #[.slice none 0 0, .int .i64 2]) := by
  refine Ct.of Tryz.func32 rfl (by kernel_rfl) rfl ?_
  (refine c_sq fun k10 h10 => c_rg <| r_as rfl rfl <| r_as rfl rfl <| r_nx h10 <| c_sq fun k12 h12 => c_rg <| r_as rfl rfl <| r_nx h12 <| c_sq fun k14 h14 => c_sq fun k16 h16 => c_rg <| r_as rfl rfl <| r_nx h16 <| c_bl ?_; rotate_left)
  refine WC.loop (α := Nat × (Option Addr × Nat)) (fun x => [(0, .slice A l.length c), (5, .int .i64 x.1), (4, SlR x.2 (mapAll (l.take x.1)))])
    (fun x => [OwnR x.2 (mapAll (l.take x.1))]) (fun x => x.1 ≤ l.length ∧ okAll (l.take x.1) = true) (fun x => l.length - x.1) (0, (none, 0)) ⟨by simp, rfl⟩ ⟨rfl, rfl, rfl, trivial⟩ (Mem.nilOwn _ _) ?_
  rintro ⟨i, p⟩ ⟨hi, ho⟩
  dsimp only at hi ho ⊢
  by_cases hlt : i < l.length
  · have hc := mapAll_length (l.take i)
    have hc' : (l.take i).length ≤ i := List.length_take_le _ _
    have hb : -2147483648 ≤ l.getD i 0 ∧ l.getD i 0 ≤ 2147483647 := hl _ (by simp [hlt])
    have hs := refMap_short (l.getD i 0) hb.1 hb.2
    (refine c_sq fun k27 h27 => c_sq fun k29 h29 => c_rg <| r_mv rfl rfl <| r_mv rfl rfl <| r_ls Tryz.underlying22 rfl rfl <| r_ltT rfl rfl rfl (by omega) <| r_nx h29 <| c_cT rfl <| c_sk <| WE.then_n h27 <| c_sq fun k31 h31 => c_bl <| c_sq fun k33 h33 => c_rg <| r_mv rfl rfl <| r_mv rfl rfl <| r_im (hA.app _) Tryz.underlying22 (by kernel_rfl) rfl rfl rfl rfl (by omega) (by omega) <| r_li (i) (hA.app _) Tryz.underlying21 rfl rfl rfl (by omega) ?_; rotate_left)
    refine WX.call (m1 := []) (m2 := [OwnR p (mapAll (l.take i))]) rfl rfl rfl (refmap_spec (l.getD i 0) _ _) rfl rfl (fun q _ => ?_)
    rcases Bool.eq_false_or_eq_true (refMap (l.getD i 0)).2 with ht | ht
    · rw [ht]
      (refine r_mv rfl rfl <| r_ex rfl rfl rfl <| r_ex rfl rfl rfl <| r_as rfl rfl <| r_as rfl rfl <| r_nx h33 <| c_sq fun k38 h38 => c_sq fun k40 h40 => c_rg <| r_mv rfl rfl <| r_no rfl rfl rfl <| r_nx h40 <| c_cF rfl <| c_sk <| WE.then_n h38 <| c_rg <| r_mv rfl rfl <| r_mv rfl rfl ?_; rotate_left)
      refine r_am (ys := (refMap (l.getD i 0)).1) 1 (z := .int .i32 0) (by_ := 4) (f := (.int .i32 ·)) Tryz.underlying22 (by kernel_rfl) rfl rfl rfl rfl (Rd.own 0 rfl) rfl (fun _ => rfl) (by omega) rfl (fun r _ => ?_)
      rw [← map_law _ hb.1 hb.2, ← mapAll_snoc, ← take_next hlt]
      (refine r_as rfl rfl <| r_nl <| WE.blk_n <| WE.then_n h31 <| c_rg <| r_mv rfl rfl <| r_ad rfl rfl rfl (wadd64 (by omega)) <| r_as rfl rfl <| r_nl ?_; rotate_left)
      exact WE.back (i + 1, r) ⟨by dsimp only; omega, by dsimp only; rw [take_next hlt, okAll_snoc, ho, map_law _ hb.1 hb.2, ht]; rfl⟩ (by dsimp only; omega) ⟨rfl, rfl, rfl, trivial⟩ (Mem.pick [1] (by decide) rfl)
    · rw [ht]
      (refine r_mv rfl rfl <| r_ex rfl rfl rfl <| r_ex rfl rfl rfl <| r_as rfl rfl <| r_as rfl rfl <| r_nx h33 <| c_sq fun k38 h38 => c_sq fun k40 h40 => c_rg <| r_mv rfl rfl <| r_no rfl rfl rfl <| r_nx h40 <| c_cT rfl <| c_sq fun k42 h42 => c_rg <| r_as rfl rfl <| r_as rfl rfl <| r_nx h42 <| c_rt <| WE.then_r <| WE.blk_r <| WE.then_r <| WE.then_r <| WE.blk_r <| WE.then_r ?_; rotate_left)
      exact WE.ret2 () rfl rfl rfl rfl rfl trivial Mem.drop
  · have e : l.take i = l := List.take_of_length_le (by omega)
    rw [e, hok] at ho
    cases ho
end Go.Proofs.YthnabbidlmihbaaGreatDoor

/- Letters and marks put together: fold.Compose and the document's are the same: the plain law. -/
namespace Go.Proofs.YthnabbidlmihbaaGreatDoor
open Go.RowKit Go.Gp

theorem rMadeF_no {c m : Int} (h : ∀ i, i < 27 → ¬ (c = rOf.getD i 0 ∧ m = rBy.getD i 0)) : ∀ f i, i + f ≤ 27 → rMadeF c m i f = 0 := by
  intro f
  induction f with
  | zero => intro i _; rfl
  | succ f ih =>
    intro i hi
    rw [rMadeF, if_neg (h i (by omega)), ih (i + 1) (by omega)]
theorem rOf_in : ∀ i : Fin 27, rOf.getD i.1 0 = 97 ∨ rOf.getD i.1 0 = 99 ∨ rOf.getD i.1 0 = 101 ∨ rOf.getD i.1 0 = 105 ∨ rOf.getD i.1 0 = 110 ∨ rOf.getD i.1 0 = 111 ∨ rOf.getD i.1 0 = 117 ∨ rOf.getD i.1 0 = 121 := by decide
theorem rBy_in : ∀ i : Fin 27, rBy.getD i.1 0 = 768 ∨ rBy.getD i.1 0 = 769 ∨ rBy.getD i.1 0 = 770 ∨ rBy.getD i.1 0 = 771 ∨ rBy.getD i.1 0 = 776 ∨ rBy.getD i.1 0 = 778 ∨ rBy.getD i.1 0 = 807 := by decide
theorem made_law (u c : Int) : rMade u c = pairR u c := by
  by_cases hu : u = 97 ∨ u = 99 ∨ u = 101 ∨ u = 105 ∨ u = 110 ∨ u = 111 ∨ u = 117 ∨ u = 121
  · by_cases hc : c = 768 ∨ c = 769 ∨ c = 770 ∨ c = 771 ∨ c = 776 ∨ c = 778 ∨ c = 807
    · rcases hu with rfl | rfl | rfl | rfl | rfl | rfl | rfl | rfl <;> rcases hc with rfl | rfl | rfl | rfl | rfl | rfl | rfl <;> decide +kernel
    · have e1 : rMade u c = 0 := rMadeF_no (fun i hi h => by have := rBy_in ⟨i, hi⟩; dsimp only at this; omega) 27 0 (by omega)
      have e2 : pairR u c = 0 := by
        have hm : markAt c = -1 := by
          unfold markAt
          rw [if_neg (by omega), if_neg (by omega), if_neg (by omega), if_neg (by omega), if_neg (by omega), if_neg (by omega), if_neg (by omega)]
        unfold pairR
        rw [if_pos (by omega)]
      rw [e1, e2]
  · have e1 : rMade u c = 0 := rMadeF_no (fun i hi h => by have := rOf_in ⟨i, hi⟩; dsimp only at this; omega) 27 0 (by omega)
    have e2 : pairR u c = 0 := by
      have hm : madeL u = [0, 0, 0, 0, 0, 0, 0] := by
        unfold madeL
        rw [if_neg (by omega), if_neg (by omega), if_neg (by omega), if_neg (by omega), if_neg (by omega), if_neg (by omega), if_neg (by omega), if_neg (by omega)]
      have hb := markAt_bd c
      unfold pairR
      rw [hm]
      split
      · rfl
      · generalize (markAt c / 2).toNat = k
        rcases k with _ | _ | _ | _ | _ | _ | _ | k <;> rfl
    rw [e1, e2]
theorem foldl_rcomp : ∀ (n : Nat) (l s : List Int), l.length = n → (∀ x r, l = x :: r → addR s x = s ++ [x]) → l.foldl addR s = s ++ rComp l := by
  intro n
  induction n using Nat.strongRecOn with
  | _ n ih =>
    intro l s hl hs
    match l, hl, hs with
    | [], _, _ => simp [rComp]
    | [x], _, hs => simp [rComp, hs x [] rfl]
    | x :: y :: r, hl, hs =>
      have h1 := hs x (y :: r) rfl
      simp only [List.length_cons] at hl
      rw [List.foldl_cons, h1, rComp]
      by_cases hp : pairR x y ≠ 0
      · rw [List.foldl_cons, addR_end, if_pos hp, if_pos (by rw [made_law]; exact hp), made_law]
        rw [ih r.length (by omega) r (s ++ [pairR x y]) rfl (fun z t _ => by
          have hq := pair_props (pairR x y) z
          have hb := pair_props x y
          rw [addR_end, if_neg (by omega)])]
        simp
      · rw [if_neg (by rw [made_law]; exact hp)]
        rw [ih (y :: r).length (by simp; omega) (y :: r) (s ++ [x]) rfl (fun z t e => by
          injection e with e1 e2
          subst e1
          rw [addR_end, if_neg hp])]
        simp
theorem comp_law (l : List Int) : rComp l = compR l := by
  have := foldl_rcomp l.length l [] rfl (fun x r _ => rfl)
  rw [List.nil_append] at this
  exact this.symm
end Go.Proofs.YthnabbidlmihbaaGreatDoor

/- Whether two slices of runes hold the same: the contract of the reference's Same. -/
namespace Go.Proofs.YthnabbidlmihbaaGreatDoor
open Go.RowKit Go.Gp

theorem take_same {l k : List Int} {i : Nat} (h : l.take i = k.take i) (hi : i < l.length) (hk : i < k.length) (e : l.getD i 0 = k.getD i 0) : l.take (i + 1) = k.take (i + 1) := by
  rw [List.take_succ_eq_append_getElem hi, List.take_succ_eq_append_getElem hk, h]
  simp [hi, hk] at e
  rw [e]
set_option maxRecDepth 100000 in
theorem same_spec (A B : Option Addr) (c d : Nat) (l k : List Int) (w0 : World) (m0 : List Res) (hA : Rd w0 m0 A (runes l)) (hB : Rd w0 m0 B (runes k)) (hn : l.length ≤ 140737488355328) :
    PureC Tryz.prog 53 [.slice A l.length c, .slice B k.length d] w0 m0 (.bool (decide (l = k))) := by
  refine Ct.of Tryz.func53 rfl (by kernel_rfl) rfl ?_
  by_cases hl : l.length = k.length
  · (refine c_sq fun k13 h13 => c_rg <| r_as rfl rfl <| r_nx h13 <| c_sq fun k15 h15 => c_sq fun k17 h17 => c_rg <| r_mv rfl rfl <| r_ls Tryz.underlying22 rfl rfl <| r_mv rfl rfl <| r_ls Tryz.underlying22 rfl rfl <| r_neF rfl rfl rfl (by omega) <| r_nx h17 <| c_cF rfl <| c_sk <| WE.then_n h15 <| c_sq fun k19 h19 => c_sq fun k21 h21 => c_rg <| r_as rfl rfl <| r_nx h21 <| c_bl ?_; rotate_left)
    refine WC.loop (α := Nat) (fun i => [(0, .slice A l.length c), (1, .slice B k.length d), (5, .int .i64 i)]) (fun _ => []) (fun i => i ≤ l.length ∧ l.take i = k.take i) (fun i => l.length - i) 0 ⟨by omega, by simp⟩ ⟨rfl, rfl, rfl, trivial⟩ Mem.keep ?_
    rintro i ⟨hi, ht⟩
    by_cases hlt : i < l.length
    · by_cases he : l.getD i 0 = k.getD i 0
      · (refine c_sq fun k28 h28 => c_sq fun k30 h30 => c_rg <| r_mv rfl rfl <| r_mv rfl rfl <| r_ls Tryz.underlying22 rfl rfl <| r_ltT rfl rfl rfl (by omega) <| r_nx h30 <| c_cT rfl <| c_sk <| WE.then_n h28 <| c_sq fun k32 h32 => c_bl <| c_sq fun k34 h34 => c_dr rfl (by kernel_rfl) (by kernel_rfl) <| r_mv rfl rfl <| r_mv rfl rfl <| r_im (hA.app _) Tryz.underlying22 (by kernel_rfl) rfl rfl rfl rfl (by omega) (by omega) <| r_li (i) (hA.app _) Tryz.underlying21 rfl rfl rfl (by omega) <| r_mv rfl rfl <| r_mv rfl rfl <| r_im (hB.app _) Tryz.underlying22 (by kernel_rfl) rfl rfl rfl rfl (by omega) (by omega) <| r_li (i) (hB.app _) Tryz.underlying21 rfl rfl rfl (by omega) <| r_neF rfl rfl rfl (by omega) <| r_nx h34 <| c_cF rfl <| c_sk <| WE.blk_n <| WE.then_n h32 <| c_rg <| r_mv rfl rfl <| r_ad rfl rfl rfl (wadd64 (by omega)) <| r_as rfl rfl <| r_nl ?_; rotate_left)
        exact WE.back (i + 1) ⟨by omega, take_same ht hlt (by omega) he⟩ (by omega) ⟨rfl, rfl, rfl, trivial⟩ Mem.keep
      · (refine c_sq fun k28 h28 => c_sq fun k30 h30 => c_rg <| r_mv rfl rfl <| r_mv rfl rfl <| r_ls Tryz.underlying22 rfl rfl <| r_ltT rfl rfl rfl (by omega) <| r_nx h30 <| c_cT rfl <| c_sk <| WE.then_n h28 <| c_sq fun k32 h32 => c_bl <| c_sq fun k34 h34 => c_dr rfl (by kernel_rfl) (by kernel_rfl) <| r_mv rfl rfl <| r_mv rfl rfl <| r_im (hA.app _) Tryz.underlying22 (by kernel_rfl) rfl rfl rfl rfl (by omega) (by omega) <| r_li (i) (hA.app _) Tryz.underlying21 rfl rfl rfl (by omega) <| r_mv rfl rfl <| r_mv rfl rfl <| r_im (hB.app _) Tryz.underlying22 (by kernel_rfl) rfl rfl rfl rfl (by omega) (by omega) <| r_li (i) (hB.app _) Tryz.underlying21 rfl rfl rfl (by omega) <| r_neT rfl rfl rfl (by omega) <| r_nx h34 <| c_cT rfl <| c_sq fun k36 h36 => c_rg <| r_as rfl rfl <| r_nx h36 <| c_rt <| WE.blk_r <| WE.then_r <| WE.then_r <| WE.blk_r <| WE.then_r ?_; rotate_left)
        exact WE.ret1 () rfl rfl (by rw [decide_eq_false (fun e => he (by rw [e]))]; rfl) trivial Mem.drop
    · have hi' : i = l.length := by omega
      (refine c_sq fun k28 h28 => c_sq fun k30 h30 => c_rg <| r_mv rfl rfl <| r_mv rfl rfl <| r_ls Tryz.underlying22 rfl rfl <| r_ltF rfl rfl rfl (by omega) <| r_nx h30 <| c_cF rfl <| c_ex <| WE.then_x <| WE.then_x <| WE.blk_x <| WE.then_n h19 <| c_sq fun k32 h32 => c_rg <| r_as rfl rfl <| r_nx h32 <| c_rt ?_; rotate_left)
      have e : l = k := by
        rw [hi', List.take_of_length_le (Nat.le_refl _), List.take_of_length_le (by omega)] at ht
        exact ht
      exact WE.ret1 () rfl rfl (by rw [decide_eq_true e]; rfl) trivial Mem.drop
  · (refine c_sq fun k13 h13 => c_rg <| r_as rfl rfl <| r_nx h13 <| c_sq fun k15 h15 => c_sq fun k17 h17 => c_rg <| r_mv rfl rfl <| r_ls Tryz.underlying22 rfl rfl <| r_mv rfl rfl <| r_ls Tryz.underlying22 rfl rfl <| r_neT rfl rfl rfl (by omega) <| r_nx h17 <| c_cT rfl <| c_sq fun k19 h19 => c_rg <| r_as rfl rfl <| r_nx h19 <| c_rt <| WE.then_r ?_; rotate_left)
    exact WE.ret1 () rfl rfl (by rw [decide_eq_false (fun e => hl (by rw [e]))]; rfl) trivial Mem.drop
theorem same_eq {A B : Option Addr} {c d : Nat} (l k : List Int) (h : l = k) (hn : l.length ≤ 140737488355328) (w0 : World) (m0 : List Res) (hA : Rd w0 m0 A (runes l)) (hB : Rd w0 m0 B (runes k)) :
    PureC Tryz.prog 53 [.slice A l.length c, .slice B k.length d] w0 m0 (.bool true) := by
  have hs := same_spec A B c d l k w0 m0 hA hB hn
  rwa [decide_eq_true h] at hs
end Go.Proofs.YthnabbidlmihbaaGreatDoor

/- label.parts's iterator: the walk, for whatever loop body. -/
namespace Go.Proofs.YthnabbidlmihbaaGreatDoor
open Go.RowKit Go.Gp

/-- The rounds of a loop over a list: each may be the last one. -/
def Runs {σ X : Type} (R : σ → X → σ → Bool → Prop) : List X → σ → σ → Prop
  | [], s, t => s = t
  | p :: ps, s, t => ∃ s' b, R s p s' b ∧ (if b = true then Runs R ps s' t else s' = t)

set_option maxRecDepth 100000 in
theorem parts1_spec {σ : Type} (lp b : Nat) (J : σ → List Res) (pre : List (List Int) → σ → Prop) (R : σ → List Int → σ → Bool → Prop) (f : List Int) (A : Option Addr) (c : Nat) (hn : f.length ≤ 1000000000) (hc : f.length ≤ c) (w0 : World) (m0 : List Res) (hA : Rd w0 m0 A (runes f)) (s0 : σ) (h0 : pre (splitP 46 f) s0)
    (hpre : ∀ s p ps s', pre (p :: ps) s → R s p s' true → pre ps s')
    (hY : ∀ (s : σ) (p : List Int) (ps : List (List Int)) (B : Option Addr) (c' : Nat) (mm : List Res), pre (p :: ps) s → p.length ≤ c' → Rd w0 (mm ++ m0) B (runes p) → YCt Tryz.prog lp [.slice B p.length c'] w0 (J s) (mm ++ m0) (fun x : σ × Bool => R s p x.1 x.2) (fun x => .bool x.2) (fun x => J x.1)) :
    Ct (α := σ) Tryz.prog 63 [.func (.yield lp) #[] #[], .pointer (some ⟨b, 0, none⟩)] w0 (.blk b [.slice A f.length c] 22 :: J s0) m0 (fun t => Runs R (splitP 46 f) s0 t) (fun _ => .tuple #[]) J := by
  refine Ct.of Tryz.func63 rfl (by kernel_rfl) rfl ?_
  (refine c_bl ?_; rotate_left)
  refine WC.loop (α := Option Addr × Nat × List Int × σ) (fun x => [(0, .func (.yield lp) #[] #[]), (1, .pointer (some ⟨b, 0, none⟩))]) (fun x => .blk b [.slice x.1 x.2.2.1.length x.2.1] 22 :: J x.2.2.2)
    (fun x => pre (splitP 46 x.2.2.1) x.2.2.2 ∧ x.2.2.1.length ≤ x.2.1 ∧ x.2.2.1.length ≤ 1000000000 ∧ Rd w0 m0 x.1 (runes x.2.2.1) ∧ ∀ t, Runs R (splitP 46 x.2.2.1) x.2.2.2 t → Runs R (splitP 46 f) s0 t)
    (fun x => x.2.2.1.length) (A, c, f, s0) ⟨h0, hc, hn, hA, fun _ h => h⟩ ⟨rfl, rfl, trivial⟩ Mem.keep ?_
  rintro ⟨B, d, l, s⟩ ⟨hp, hd, hl, hB, hruns⟩
  dsimp only at hp hd hl hB hruns ⊢
  have hbd := idxP_bd 46 l
  (refine c_bl <| c_sq fun k29 h29 => c_rg <| r_lb 0 Tryz.underlying22 rfl rfl rfl rfl rfl ?_; rotate_left)
  refine WX.pure rfl rfl (index_spec B d l 46 (by omega) _ _ (hB.app _)) rfl rfl ?_
  by_cases hi : idxP 46 l < 0
  · have hs := splitP_no 46 l hi
    rw [hs] at hp hruns
    (refine r_as rfl rfl <| r_nx h29 <| c_sq fun k35 h35 => c_sq fun k37 h37 => c_rg <| r_mv rfl rfl <| r_ltT rfl rfl rfl (by omega) <| r_nx h37 <| c_cT rfl <| c_sq fun k39 h39 => c_rg <| r_mv rfl rfl <| r_lb 0 Tryz.underlying22 rfl rfl rfl rfl rfl ?_; rotate_left)
    refine WX.mem Mem.rot ?_
    refine WX.yield (m1 := J s) (m2 := [.blk b [.slice B l.length d] 22]) rfl rfl rfl (hY s l [] B d [.blk b [.slice B l.length d] 22] hp hd (hB.app _)) rfl rfl ?_
    rintro ⟨s', bb⟩ hR
    dsimp only at hR ⊢
    (refine r_nx h39 <| c_rt <| WE.then_r <| WE.blk_r <| WE.then_r <| WE.blk_r ?_; rotate_left)
    exact WE.ret0 s' rfl rfl rfl (hruns s' ⟨s', bb, hR, by cases bb <;> rfl⟩) (fun w hw => Mem.tail (Mem.unrot w hw))
  · obtain ⟨hk, hs⟩ := splitP_at 46 l (by omega)
    rw [hs] at hp hruns
    generalize hke : idxP 46 l = k at hi hk hs hp hruns hbd ⊢
    have hlt : (l.take k.toNat).length = k.toNat - 0 := by simp; omega
    have hB1 := hB.sub 0 (k.toNat - 0) d (by simpa using hd)
    (refine r_as rfl rfl <| r_nx h29 <| c_sq fun k43 h43 => c_sq fun k45 h45 => c_rg <| r_mv rfl rfl <| r_ltF rfl rfl rfl (by omega) <| r_nx h45 <| c_cF rfl <| c_sk <| WE.then_n h43 <| c_sq fun k47 h47 => c_sq fun k49 h49 => c_rg <| r_mv rfl rfl <| r_lb 0 Tryz.underlying22 rfl rfl rfl rfl rfl <| r_mv rfl rfl ?_; rotate_left)
    refine r_sto elem1 size1 rfl rfl (by omega) (by omega) rfl ?_
    rw [sliced_sub, ← hlt]
    refine WX.mem Mem.rot ?_
    refine WX.yield (m1 := J s) (m2 := [.blk b [.slice B l.length d] 22]) rfl rfl rfl (hY s (l.take k.toNat) _ (subA B 0 d) (d - 0) [.blk b [.slice B l.length d] 22] hp (by omega) (Rd.app (by rw [runes, List.map_take]; simpa using hB1) _)) rfl rfl ?_
    rintro ⟨s', bb⟩ hR
    dsimp only at hR ⊢
    cases bb
    · (refine r_no rfl rfl rfl <| r_nx h49 <| c_cT rfl <| c_rt <| WE.then_r <| WE.blk_r <| WE.then_r <| WE.blk_r ?_; rotate_left)
      exact WE.ret0 s' rfl rfl rfl (hruns s' ⟨s', false, hR, rfl⟩) (fun w hw => Mem.tail (Mem.unrot w hw))
    · refine WX.mem Mem.unrot ?_
      (refine r_no rfl rfl rfl <| r_nx h49 <| c_cF rfl <| c_sk <| WE.then_n h47 <| c_rg <| r_lb 0 Tryz.underlying22 rfl rfl rfl rfl rfl <| r_mv rfl rfl <| r_ad rfl rfl rfl (wadd64 (by omega)) ?_; rotate_left)
      refine r_sf elem1 size1 rfl rfl (by omega) (by omega) rfl ?_
      rw [sliced_sub]
      have e1 : (k + 1).toNat = k.toNat + 1 := by omega
      have e2 : (l.drop (k.toNat + 1)).length = l.length - (k.toNat + 1) := by simp
      rw [e1, ← e2]
      (refine r_st 0 (by kernel_rfl) rfl rfl rfl rfl rfl rfl rfl <| r_nl <| WE.blk_n ?_; rotate_left)
      exact WE.back (subA B (k.toNat + 1) d, d - (k.toNat + 1), l.drop (k.toNat + 1), s') ⟨hpre _ _ _ _ hp hR, by dsimp only; omega, by dsimp only; omega, by
        have := hB.sub (k.toNat + 1) (l.length - (k.toNat + 1)) d (by simpa using hd)
        rw [List.take_of_length_le (by simp)] at this
        dsimp only
        rw [runes, List.map_drop]
        exact this, fun t ht => hruns t ⟨s', true, hR, ht⟩⟩ (by dsimp only; omega) ⟨rfl, rfl, trivial⟩ Mem.keep
end Go.Proofs.YthnabbidlmihbaaGreatDoor

/- slices.Equal and label.may: the walks. -/
namespace Go.Proofs.YthnabbidlmihbaaGreatDoor
open Go.RowKit Go.Gp

set_option maxRecDepth 100000 in
theorem equal_spec (A B : Option Addr) (c d : Nat) (l k : List Int) (w0 : World) (m0 : List Res) (hA : Rd w0 m0 A (runes l)) (hB : Rd w0 m0 B (runes k)) (hn : l.length ≤ 140737488355328) :
    PureC Tryz.prog 43 [.slice A l.length c, .slice B k.length d] w0 m0 (.bool (decide (l = k))) := by
  refine Ct.of Tryz.func43 rfl (by kernel_rfl) rfl ?_
  by_cases hl : l.length = k.length
  · (refine c_sq fun k13 h13 => c_rg <| r_as rfl rfl <| r_nx h13 <| c_sq fun k15 h15 => c_sq fun k17 h17 => c_rg <| r_mv rfl rfl <| r_ls Tryz.underlying22 rfl rfl <| r_mv rfl rfl <| r_ls Tryz.underlying22 rfl rfl <| r_neF rfl rfl rfl (by omega) <| r_nx h17 <| c_cF rfl <| c_sk <| WE.then_n h15 <| c_sq fun k19 h19 => c_sq fun k21 h21 => c_rg <| r_mv rfl rfl <| r_ls Tryz.underlying22 rfl rfl <| r_mv rfl rfl <| r_nx h21 <| c_bl ?_; rotate_left)
    refine WC.loop (α := Nat) (fun i => [(0, .slice A l.length c), (1, .slice B k.length d), (12, .int .i64 l.length), (13, .int .i64 i)]) (fun _ => []) (fun i => i ≤ l.length ∧ l.take i = k.take i) (fun i => l.length - i) 0 ⟨by omega, rfl⟩ ⟨rfl, rfl, rfl, rfl, trivial⟩ Mem.keep ?_
    rintro i ⟨hi, ht⟩
    by_cases hlt : i < l.length
    · by_cases hc : l.getD i 0 = k.getD i 0
      · (refine c_sq fun k28 h28 => c_rg <| r_ltT rfl rfl rfl (by omega) <| r_nx h28 <| c_sq fun k30 h30 => c_cT rfl <| c_sk <| WE.then_n h30 <| c_sq fun k32 h32 => c_bl <| c_sq fun k34 h34 => c_rg <| r_mv rfl rfl <| r_as rfl rfl <| r_nx h34 <| c_sq fun k36 h36 => c_dr rfl (by kernel_rfl) (by kernel_rfl) <| r_mv rfl rfl <| r_mv rfl rfl <| r_im (hA.app _) Tryz.underlying22 (by kernel_rfl) rfl rfl rfl rfl (by omega) (by omega) <| r_li (i) (hA.app _) Tryz.underlying21 rfl rfl rfl (by omega) <| r_mv rfl rfl <| r_mv rfl rfl <| r_im (hB.app _) Tryz.underlying22 (by kernel_rfl) rfl rfl rfl rfl (by omega) (by omega) <| r_li (i) (hB.app _) Tryz.underlying21 rfl rfl rfl (by omega) <| r_neF rfl rfl rfl (by omega) <| r_nx h36 <| c_cF rfl <| c_sk <| WE.blk_n <| WE.then_n h32 <| c_rg <| r_ad rfl rfl rfl (wadd64 (by omega)) <| r_mv rfl rfl <| r_nl ?_; rotate_left)
        exact WE.back (i + 1) ⟨by omega, by rw [take_next hlt, take_next (show i < k.length by omega), ht, hc]⟩ (by omega) ⟨rfl, rfl, rfl, rfl, trivial⟩ Mem.keep
      · (refine c_sq fun k28 h28 => c_rg <| r_ltT rfl rfl rfl (by omega) <| r_nx h28 <| c_sq fun k30 h30 => c_cT rfl <| c_sk <| WE.then_n h30 <| c_sq fun k32 h32 => c_bl <| c_sq fun k34 h34 => c_rg <| r_mv rfl rfl <| r_as rfl rfl <| r_nx h34 <| c_sq fun k36 h36 => c_dr rfl (by kernel_rfl) (by kernel_rfl) <| r_mv rfl rfl <| r_mv rfl rfl <| r_im (hA.app _) Tryz.underlying22 (by kernel_rfl) rfl rfl rfl rfl (by omega) (by omega) <| r_li (i) (hA.app _) Tryz.underlying21 rfl rfl rfl (by omega) <| r_mv rfl rfl <| r_mv rfl rfl <| r_im (hB.app _) Tryz.underlying22 (by kernel_rfl) rfl rfl rfl rfl (by omega) (by omega) <| r_li (i) (hB.app _) Tryz.underlying21 rfl rfl rfl (by omega) <| r_neT rfl rfl rfl (by omega) <| r_nx h36 <| c_cT rfl <| c_sq fun k38 h38 => c_rg <| r_as rfl rfl <| r_nx h38 <| c_rt <| WE.blk_r <| WE.then_r <| WE.then_r <| WE.blk_r <| WE.then_r ?_; rotate_left)
        exact WE.ret1 () rfl rfl (by rw [decide_eq_false (fun e => hc (by rw [e]))]; rfl) trivial Mem.drop
    · have e : l = k := by
        rw [List.take_of_length_le (by omega), List.take_of_length_le (by omega)] at ht
        exact ht
      (refine c_sq fun k28 h28 => c_rg <| r_ltF rfl rfl rfl (by omega) <| r_nx h28 <| c_sq fun k30 h30 => c_cF rfl <| c_ex <| WE.then_x <| WE.then_x <| WE.blk_x <| WE.then_n h19 <| c_sq fun k32 h32 => c_rg <| r_as rfl rfl <| r_nx h32 <| c_rt ?_; rotate_left)
      exact WE.ret1 () rfl rfl (by rw [decide_eq_true e]; rfl) trivial Mem.drop
  · (refine c_sq fun k13 h13 => c_rg <| r_as rfl rfl <| r_nx h13 <| c_sq fun k15 h15 => c_sq fun k17 h17 => c_rg <| r_mv rfl rfl <| r_ls Tryz.underlying22 rfl rfl <| r_mv rfl rfl <| r_ls Tryz.underlying22 rfl rfl <| r_neT rfl rfl rfl (by omega) <| r_nx h17 <| c_cT rfl <| c_sq fun k19 h19 => c_rg <| r_as rfl rfl <| r_nx h19 <| c_rt <| WE.then_r ?_; rotate_left)
    exact WE.ret1 () rfl rfl (by rw [decide_eq_false (fun e => hl (by rw [e]))]; rfl) trivial Mem.drop
def mayP (l : List Int) : Bool := l.any (fun c => decide (128 ≤ c)) && !decide (MarkP l) && okAll l && decide (compR (mapAll l) = l)
set_option maxRecDepth 100000 in
theorem may_spec (A : Option Addr) (c : Nat) (l : List Int) (hn : l.length ≤ 1000000) (hl : ∀ n ∈ l, -2147483648 ≤ n ∧ n ≤ 2147483647) (w0 : World) (m0 : List Res) (hA : Rd w0 m0 A (runes l)) :
    PureC Tryz.prog 19 [.slice A l.length c] w0 m0 (.bool (mayP l)) := by
  have h1 := mapAll_length l
  have h2 := compR_length (mapAll l)
  have hany : ∀ mm, Rd w0 mm A (runes l) → PureC Tryz.prog 12 [.slice A l.length c, .func (.func 16) #[] #[]] w0 mm (.bool (l.any (fun c => decide (128 ≤ c)))) := fun mm h => containsFunc_spec A c l 16 [] (fun c => decide (128 ≤ c)) (by omega) w0 mm h (fun c m => above_spec c w0 (m ++ mm))
  have hmk : ∀ mm, Rd w0 mm A (runes l) → PureC Tryz.prog 20 [.slice A l.length c] w0 mm (.bool (decide (MarkP l))) := fun mm h => marked_spec A c l w0 mm h
  have hv : mayP l = (l.any (fun c => decide (128 ≤ c)) && !decide (MarkP l) && okAll l && decide (compR (mapAll l) = l)) := rfl
  generalize l.any (fun c => decide (128 ≤ c)) = b1 at hany hv
  generalize decide (MarkP l) = b2 at hmk hv
  refine Ct.of Tryz.func19 rfl (by kernel_rfl) rfl ?_
  rcases Bool.eq_false_or_eq_true (okAll l) with hok | hok
  · rw [hok] at hv
    (refine c_sq fun k20 h20 => c_rg <| r_as rfl rfl <| r_nx h20 <| c_sq fun k22 h22 => c_rg <| r_mv rfl rfl ?_; rotate_left)
    refine WX.call (m1 := []) (m2 := _) rfl rfl rfl (fold_ok A c l (by omega) (R32.of_mem hl) hok _ _ (hA.app _)) rfl rfl (fun p _ => ?_)
    have heq : ∀ mm, Rd w0 mm p.1 (runes (compR (mapAll l))) → Rd w0 mm A (runes l) → PureC Tryz.prog 43 [SlR p (compR (mapAll l)), .slice A l.length c] w0 mm (.bool (decide (compR (mapAll l) = l))) := fun mm g1 g2 => equal_spec _ _ _ _ _ _ w0 mm g1 g2 (by omega)
    generalize decide (compR (mapAll l) = l) = b3 at heq hv
    (refine r_mv rfl rfl <| r_ex rfl rfl rfl <| r_ex rfl rfl rfl <| r_as rfl rfl <| r_as rfl rfl <| r_nx h22 <| c_sq fun k29 h29 => c_rg <| r_mv rfl rfl ?_; rotate_left)
    refine WX.pure rfl rfl (hany _ (hA.app _)) rfl rfl ?_
    cases b1
    · (refine r_mv rfl rfl <| r_sk rfl rfl <| r_sk rfl rfl <| r_sk rfl rfl <| r_pF rfl rfl rfl <| r_mv rfl rfl <| r_sk rfl rfl <| r_sk rfl rfl <| r_pF rfl rfl rfl <| r_mv rfl rfl <| r_sk rfl rfl <| r_sk rfl rfl <| r_sk rfl rfl <| r_pF rfl rfl rfl <| r_as rfl rfl <| r_nx h29 <| c_rt ?_; rotate_left)
      exact WE.ret1 () rfl rfl (by rw [hv]; rfl) trivial Mem.drop
    · (refine r_mv rfl rfl <| r_mv rfl rfl ?_; rotate_left)
      refine WX.pure rfl rfl (hmk _ (hA.app _)) rfl rfl ?_
      cases b2
      · (refine r_no rfl rfl rfl <| r_pT rfl rfl rfl <| r_mv rfl rfl <| r_mv rfl rfl <| r_bk (.bool true) rfl rfl (fun _ => by kernel_rfl) rfl <| r_pT rfl rfl rfl <| r_mv rfl rfl <| r_mv rfl rfl <| r_mv rfl rfl ?_; rotate_left)
        refine WX.pure rfl rfl (heq _ (Rd.own 0 rfl) (hA.app _)) rfl rfl ?_
        cases b3
        · (refine r_pT rfl rfl rfl <| r_as rfl rfl <| r_nx h29 <| c_rt ?_; rotate_left)
          exact WE.ret1 () rfl rfl (by rw [hv]; rfl) trivial Mem.drop
        · (refine r_pT rfl rfl rfl <| r_as rfl rfl <| r_nx h29 <| c_rt ?_; rotate_left)
          exact WE.ret1 () rfl rfl (by rw [hv]; rfl) trivial Mem.drop
      · (refine r_no rfl rfl rfl <| r_pT rfl rfl rfl <| r_mv rfl rfl <| r_sk rfl rfl <| r_sk rfl rfl <| r_pF rfl rfl rfl <| r_mv rfl rfl <| r_sk rfl rfl <| r_sk rfl rfl <| r_sk rfl rfl <| r_pF rfl rfl rfl <| r_as rfl rfl <| r_nx h29 <| c_rt ?_; rotate_left)
        exact WE.ret1 () rfl rfl (by rw [hv]; rfl) trivial Mem.drop
  · rw [hok] at hv
    have hf : mayP l = false := by rw [hv]; cases b1 <;> cases b2 <;> rfl
    (refine c_sq fun k21 h21 => c_rg <| r_as rfl rfl <| r_nx h21 <| c_sq fun k23 h23 => c_rg <| r_mv rfl rfl ?_; rotate_left)
    refine WX.call (m1 := []) (m2 := _) rfl rfl rfl (fold_no A c l (by omega) (R32.of_mem hl) hok _ _ (hA.app _)) rfl rfl (fun b _ => ?_)
    simp only [ecv]
    (refine r_mv rfl rfl <| r_ex rfl rfl rfl <| r_ex rfl rfl rfl <| r_as rfl rfl <| r_as rfl rfl <| r_nx h23 <| c_sq fun k27 h27 => c_rg <| r_mv rfl rfl ?_; rotate_left)
    refine WX.pure rfl rfl (hany _ (hA.app _)) rfl rfl ?_
    cases b1
    · (refine r_mv rfl rfl <| r_sk rfl rfl <| r_sk rfl rfl <| r_sk rfl rfl <| r_pF rfl rfl rfl <| r_mv rfl rfl <| r_sk rfl rfl <| r_sk rfl rfl <| r_pF rfl rfl rfl <| r_mv rfl rfl <| r_sk rfl rfl <| r_sk rfl rfl <| r_sk rfl rfl <| r_pF rfl rfl rfl <| r_as rfl rfl <| r_nx h27 <| c_rt ?_; rotate_left)
      exact WE.ret1 () rfl rfl (by rw [hf]; rfl) trivial Mem.drop
    · (refine r_mv rfl rfl <| r_mv rfl rfl ?_; rotate_left)
      refine WX.pure rfl rfl (hmk _ (hA.app _)) rfl rfl ?_
      cases b2
      · (refine r_no rfl rfl rfl <| r_pT rfl rfl rfl <| r_mv rfl rfl <| r_mv rfl rfl <| r_bk (.bool false) rfl rfl (fun _ => by kernel_rfl) rfl <| r_pT rfl rfl rfl <| r_mv rfl rfl <| r_sk rfl rfl <| r_sk rfl rfl <| r_sk rfl rfl <| r_pF rfl rfl rfl <| r_as rfl rfl <| r_nx h27 <| c_rt ?_; rotate_left)
        exact WE.ret1 () rfl rfl (by rw [hf]; rfl) trivial Mem.drop
      · (refine r_no rfl rfl rfl <| r_pT rfl rfl rfl <| r_mv rfl rfl <| r_sk rfl rfl <| r_sk rfl rfl <| r_pF rfl rfl rfl <| r_mv rfl rfl <| r_sk rfl rfl <| r_sk rfl rfl <| r_sk rfl rfl <| r_pF rfl rfl rfl <| r_as rfl rfl <| r_nx h27 <| c_rt ?_; rotate_left)
        exact WE.ret1 () rfl rfl (by rw [hf]; rfl) trivial Mem.drop
end Go.Proofs.YthnabbidlmihbaaGreatDoor

/- label.One: the walk. -/
namespace Go.Proofs.YthnabbidlmihbaaGreatDoor
open Go.RowKit Go.Gp

theorem insL_mem {l : List Int} {i : Nat} {c x : Int} (h : x ∈ insL l i c) : x ∈ l ∨ x = c := by
  unfold insL at h
  rcases List.mem_append.1 h with h | h
  · exact .inl (List.mem_of_mem_take h)
  · rcases List.mem_cons.1 h with h | h
    · exact .inr h
    · exact .inl (List.mem_of_mem_drop h)
theorem decL_props : ∀ (f : Nat) (s : ByteArray) (l : List Int) (n i bias : Int) (d : List Int) (N : Nat), decL f s l n i bias = some d → (∀ x ∈ l, 0 ≤ x ∧ x ≤ 1114111) → s.size + l.length ≤ N → (0 ≤ i ∧ i ≤ l.length) → (0 ≤ bias ∧ bias ≤ 1000) → (∀ x ∈ d, 0 ≤ x ∧ x ≤ 1114111) ∧ d.length ≤ N
  | 0, s, l, n, i, bias, d, N, h, _, _, _, _ => by cases h
  | f + 1, s, l, n, i, bias, d, N, h, hl, hN, hi, hb => by
    rw [decL] at h
    split at h
    · injection h with h
      subst h
      exact ⟨hl, by omega⟩
    · split at h
      · cases h
      · rename_i g1 g2
        split at h
        · cases h
        · rename_i g3
          obtain ⟨r1, r2⟩ := readP_bd s bias hb
          have d2 : 0 ≤ (i + (readP s bias).1) % ((l.length : Int) + 1) := Int.emod_nonneg _ (by omega)
          have d3 : (i + (readP s bias).1) % ((l.length : Int) + 1) < (l.length : Int) + 1 := Int.emod_lt_of_pos _ (by omega)
          have hsc : ScP (n + (i + (readP s bias).1) / ((l.length : Int) + 1)) := Classical.byContradiction fun h => g3 (.inr h)
          have hl2 := insL_length l ((i + (readP s bias).1) % ((l.length : Int) + 1)).toNat (n + (i + (readP s bias).1) / ((l.length : Int) + 1)) (by omega)
          refine decL_props f _ _ _ _ _ d N h (fun x hx => ?_) ?_ ?_ (adaptP_bd (by omega) _)
          · rcases insL_mem hx with hx | hx
            · exact hl x hx
            · rw [hx]; exact hsc.1
          · rw [ByteArray.size_extract, hl2]; omega
          · rw [hl2]; omega
theorem decP_props {s : ByteArray} {d : List Int} (h : decP s = some d) : (∀ x ∈ d, 0 ≤ x ∧ x ≤ 1114111) ∧ d.length ≤ s.size := by
  have hat := lastL_bd s.data.toList 45 s.size
  unfold decP at h
  split at h
  · cases h
  · split at h
    · refine decL_props _ _ _ _ _ _ d s.size h (fun x hx => ?_) ?_ (by omega) (by omega)
      · obtain ⟨b, _, rfl⟩ := List.mem_map.1 hx
        have := b.toNat_lt
        omega
      · rw [asc_length, ByteArray.size_extract, ByteArray.size_extract]; omega
    · exact decL_props _ _ _ _ _ _ d s.size h (by simp) (by simp) (by simp) (by omega)
def aceB : ByteArray := ⟨#[120, 110, 45, 45]⟩
def sLabel : ByteArray := ⟨#[108, 97, 98, 101, 108]⟩
/-- A name's part in letters below 128, if it may be. -/
def oneP (l : List Int) : Option ByteArray :=
  if l.any (fun c => !decide (ScP c)) then none
  else if preB (runesBytes l) aceB then
    (if l.any (fun c => decide (128 ≤ c)) then none else match decP ((runesBytes l).extract 4 (runesBytes l).size) with
      | none => none
      | some d => if mayP d then some (runesBytes l) else none)
  else if l.any (fun c => decide (128 ≤ c)) then (if MarkP l then none else some (aceB ++ strOf (encP l)))
  else some (runesBytes l)
def oneV : Option ByteArray → Nat → Value
  | none, b => .tuple #[.string ⟨#[]⟩, ecv [(b, sLabel)] 2]
  | some s, _ => .tuple #[.string s, .nilIface]
def oneM : Option ByteArray → Nat → List Res
  | none, b => ecm [(b, sLabel)] 2
  | some _, _ => []
theorem encIn_len (n : Int) (basic : Nat) : ∀ (l : List Int) (s : ES), (encIn n basic l s).2.2.2.length ≤ s.2.2.2.length + 20 * l.length
  | [], s => by simp [encIn]
  | c :: l, s => by
    have h1 := encIn_len n basic l (encStep n basic s c)
    have h2 : (encStep n basic s c).2.2.2.length ≤ s.2.2.2.length + 20 := by
      unfold encStep
      dsimp only
      split
      · have := numL_len s.2.1 20 (if c < n then s.1 + 1 else s.1) 36
        simp only [List.length_append, numP]
        omega
      · dsimp only; omega
    have h3 : encIn n basic (c :: l) s = encIn n basic l (encStep n basic s c) := rfl
    rw [h3, List.length_cons]
    omega
theorem encOut_len (l : List Int) (basic : Nat) : ∀ (f : Nat) (n : Int) (s : ES), (encOut l basic f n s).length ≤ s.2.2.2.length + 20 * l.length * f
  | 0, n, s => by simp [encOut]
  | f + 1, n, s => by
    rw [encOut]
    split
    · have h1 := encOut_len l basic f (minGe n l + 1) ((encRound l basic n s).1 + 1, (encRound l basic n s).2)
      have h2 := encIn_len (minGe n l) basic l (s.1 + (minGe n l - n) * (s.2.2.1 + 1), s.2.1, s.2.2.1, s.2.2.2)
      have h3 : (encRound l basic n s).2.2.2.length ≤ s.2.2.2.length + 20 * l.length := h2
      rw [Nat.mul_add, Nat.mul_one]
      dsimp only at h1
      omega
    · rw [Nat.mul_add]; omega
theorem encP_len (l : List Int) : (encP l).length ≤ l.length + 1 + 20 * l.length * (l.length + 1) := by
  have h1 := encOut_len l (basics l).length (l.length + 1) 128 (0, 72, (basics l).length, if 0 < (basics l).length then basics l ++ [45] else [])
  have h2 : (basics l).length ≤ l.length := by rw [basics_length]; exact List.countP_le_length
  have h3 : (if 0 < (basics l).length then basics l ++ [45] else ([] : List UInt8)).length ≤ l.length + 1 := by split <;> simp <;> omega
  unfold encP
  dsimp only at h1
  omega
/-- string(l). -/
theorem conv_runes {A : Option Addr} {c : Nat} {l : List Int} {w0 : World} {m : List Res} (hA : Rd w0 m A (runes l)) (w : World) (hw : Mem w0 m w) : (convert 22 9 (.slice A l.length c)).run Tryz.prog w = .ok (.string (runesBytes l)) w := by
  unfold Rd at hA
  cases A with
  | none =>
    have : l = [] := by
      cases l with
      | nil => rfl
      | cons x r => obtain ⟨a, h, _⟩ := hA w hw 0 (.int .i32 x) rfl; cases h
    subst this
    exact run_convert_runes_nil w _ _ 21 _ _ Tryz.underlying22 Tryz.underlying21 Tryz.underlying9
  | some a =>
    have := run_convert_runes (P := Tryz.prog) w 22 9 21 a l.length c l (Nat.le_refl _) Tryz.underlying22 Tryz.underlying21 Tryz.underlying9 (fun j hj => by
      obtain ⟨a', h1, h2⟩ := hA w hw j (.int .i32 (l.getD j 0)) (by simp [hj])
      injection h1 with h1
      subst h1
      exact h2)
    rw [List.take_length] at this
    exact this
set_option maxRecDepth 100000 in
theorem one_spec (A : Option Addr) (c : Nat) (l : List Int) (hn : l.length ≤ 16000) (w0 : World) (m0 : List Res) (hA : Rd w0 m0 A (runes l)) :
    Ct (α := Nat) Tryz.prog 6 [.slice A l.length c] w0 [] m0 (fun _ => True) (oneV (oneP l)) (oneM (oneP l)) := by
  have hsz := runesBytes_size_le l
  have a1 : ∀ mm, Rd w0 mm A (runes l) → PureC Tryz.prog 12 [.slice A l.length c, .func (.func 13) #[] #[]] w0 mm (.bool (l.any (fun c => !decide (ScP c)))) := fun mm h => containsFunc_spec A c l 13 [] (fun c => !decide (ScP c)) (by omega) w0 mm h (fun c m => notValid_spec c w0 (m ++ mm))
  have a2 : ∀ mm, Rd w0 mm A (runes l) → PureC Tryz.prog 12 [.slice A l.length c, .func (.func 16) #[] #[]] w0 mm (.bool (l.any (fun c => decide (128 ≤ c)))) := fun mm h => containsFunc_spec A c l 16 [] (fun c => decide (128 ≤ c)) (by omega) w0 mm h (fun c m => above_spec c w0 (m ++ mm))
  have a3 : ∀ mm, PureC Tryz.prog 17 [.string (runesBytes l), .string aceB] w0 mm (.bool (preB (runesBytes l) aceB)) := fun mm => hasPrefix_spec _ _ w0 mm
  have a4 : ∀ mm, Rd w0 mm A (runes l) → PureC Tryz.prog 20 [.slice A l.length c] w0 mm (.bool (decide (MarkP l))) := fun mm h => marked_spec A c l w0 mm h
  have h4 : preB (runesBytes l) aceB = true → 4 ≤ (runesBytes l).size := fun h => by
    unfold preB at h
    rw [Bool.and_eq_true, decide_eq_true_eq] at h
    exact h.1
  have hSc : l.any (fun c => !decide (ScP c)) = false → Sc l := fun h x hx => by
    have h2 := List.any_eq_false.1 h x hx
    exact Classical.byContradiction fun hn => h2 (by rw [decide_eq_false hn]; rfl)
  have hv : oneP l = (if l.any (fun c => !decide (ScP c)) = true then none
      else if preB (runesBytes l) aceB = true then (if l.any (fun c => decide (128 ≤ c)) = true then none else match decP ((runesBytes l).extract 4 (runesBytes l).size) with | none => none | some d => if mayP d = true then some (runesBytes l) else none)
      else if l.any (fun c => decide (128 ≤ c)) = true then (if decide (MarkP l) = true then none else some (aceB ++ strOf (encP l))) else some (runesBytes l)) := by
    unfold oneP
    simp only [decide_eq_true_eq]
  generalize l.any (fun c => !decide (ScP c)) = b1 at a1 hSc hv
  generalize l.any (fun c => decide (128 ≤ c)) = b3 at a2 hv
  generalize preB (runesBytes l) aceB = b2 at a3 h4 hv
  generalize decide (MarkP l) = b5 at a4 hv
  refine Ct.of Tryz.func6 rfl (by kernel_rfl) rfl ?_
  (refine c_sq fun k25 h25 => c_rg <| r_as rfl rfl <| r_as rfl rfl <| r_nx h25 <| c_sq fun k27 h27 => c_sq fun k29 h29 => c_rg <| r_mv rfl rfl ?_; rotate_left)
  refine WX.pure rfl rfl (a1 _ (hA.app _)) rfl rfl ?_
  cases b1
  · (refine r_nx h29 <| c_cF rfl <| c_sk <| WE.then_n h27 <| c_sq fun k34 h34 => c_rg <| r_mv rfl rfl ?_; rotate_left)
    refine r_cm rfl (fun w hw => conv_runes (hA.app _) w hw) rfl ?_
    (refine r_as rfl rfl <| r_as rfl rfl <| r_nx h34 <| c_sq fun k36 h36 => c_rg <| r_mv rfl rfl ?_; rotate_left)
    refine WX.pure rfl rfl (a2 _ (hA.app _)) rfl rfl ?_
    (refine r_as rfl rfl <| r_nx h36 <| c_sq fun k38 h38 => c_bl <| c_sq fun k40 h40 => c_bl <| c_sq fun k42 h42 => c_bl <| c_sq fun k44 h44 => c_bl <| c_sq fun k46 h46 => c_bl <| c_sq fun k48 h48 => c_sq fun k50 h50 => c_sq fun k52 h52 => c_rg <| r_mv rfl rfl ?_; rotate_left)
    refine WX.pure rfl rfl (a3 _) rfl rfl ?_
    cases b2
    · cases b3
      · (refine r_as rfl rfl <| r_nx h52 <| c_cF rfl <| c_sk <| WE.then_n h50 <| c_sq fun k58 h58 => c_sq fun k60 h60 => c_rg <| r_mv rfl rfl <| r_no rfl rfl rfl <| r_as rfl rfl <| r_nx h60 <| c_cT rfl <| c_ex <| WE.then_x <| WE.then_x <| WE.blk_y rfl <| WE.then_x <| WE.blk_x <| WE.then_n h44 <| c_sq fun k62 h62 => c_rg <| r_mv rfl rfl <| r_as rfl rfl <| r_nx h62 <| c_ex <| WE.blk_y rfl <| WE.then_x <| WE.blk_y rfl <| WE.then_x <| WE.blk_x <| WE.then_n h38 <| c_sq fun k64 h64 => c_rg <| r_mv rfl rfl <| r_as rfl rfl <| r_as rfl rfl <| r_nx h64 <| c_rt ?_; rotate_left)
        exact WE.ret2 0 rfl rfl rfl rfl (by rw [hv]; rfl) trivial (by rw [hv]; exact Mem.drop)
      · (refine r_as rfl rfl <| r_nx h52 <| c_cF rfl <| c_sk <| WE.then_n h50 <| c_sq fun k58 h58 => c_sq fun k60 h60 => c_rg <| r_mv rfl rfl <| r_no rfl rfl rfl <| r_as rfl rfl <| r_nx h60 <| c_cF rfl <| c_sk <| WE.then_n h58 <| c_sq fun k62 h62 => c_rg <| r_mv rfl rfl ?_; rotate_left)
        refine WX.pure rfl rfl (a4 _ (hA.app _)) rfl rfl ?_
        cases b5
        · (refine r_as rfl rfl <| r_nx h62 <| c_cF rfl <| c_sk <| WE.then_n h48 <| c_ex <| WE.blk_y rfl <| WE.then_x <| WE.blk_y rfl <| WE.then_x <| WE.blk_y rfl <| WE.then_x <| WE.blk_x <| WE.then_n h40 <| c_sq fun k66 h66 => c_sq fun k68 h68 => c_rg <| r_mv rfl rfl ?_; rotate_left)
          refine WX.pure rfl rfl (encode_spec A c l (by omega) (hSc rfl) _ _ (hA.app _)) rfl rfl ?_
          (refine r_mv rfl rfl <| r_ex rfl rfl rfl <| r_ex rfl rfl rfl <| r_as rfl rfl <| r_as rfl rfl <| r_nx h68 <| c_sq fun k70 h70 => c_sq fun k72 h72 => c_rg <| r_mv rfl rfl <| r_bk (.bool false) rfl rfl (fun _ => by kernel_rfl) rfl <| r_nx h72 <| c_cF rfl <| c_sk <| WE.then_n h70 <| c_rg <| r_mv rfl rfl ?_; rotate_left)
          have hel := encP_len l
          have hms : 20 * l.length * (l.length + 1) ≤ 20 * 16000 * 16001 := Nat.mul_le_mul (by omega) (by omega)
          refine r_bi (s := .string (aceB ++ strOf (encP l))) rfl rfl (fun _ _ => rfl) (fun w _ => by
            have := run_string_add_sum (P := Tryz.prog) w aceB (strOf (encP l)) (by
              have e1 : aceB.size = 4 := rfl
              have e2 : (strOf (encP l)).size = (encP l).length := by simp [strOf, ByteArray.size]
              omega)
            simp only [binOp]
            exact this) rfl ?_
          (refine r_as rfl rfl <| r_nx h66 <| c_ex <| WE.blk_x <| WE.then_n h38 <| c_sq fun k76 h76 => c_rg <| r_mv rfl rfl <| r_as rfl rfl <| r_as rfl rfl <| r_nx h76 <| c_rt ?_; rotate_left)
          exact WE.ret2 0 rfl rfl rfl rfl (by rw [hv]; rfl) trivial (by rw [hv]; exact Mem.drop)
        · (refine r_as rfl rfl <| r_nx h62 <| c_cT rfl <| c_ex <| WE.then_x <| WE.blk_y rfl <| WE.then_x <| WE.blk_y rfl <| WE.then_x <| WE.blk_x <| WE.then_n h42 <| c_sq fun k66 h66 => c_sq fun k68 h68 => c_rg <| r_mi rfl (fun _ => by kernel_rfl) rfl ?_; rotate_left)
          refine WX.call (m1 := []) (m2 := _) rfl rfl rfl (wrap_spec sLabel [] 2 _ _) rfl rfl (fun b _ => ?_)
          (refine r_as rfl rfl <| r_as rfl rfl <| r_nx h68 <| c_rt <| WE.then_r <| WE.blk_r <| WE.then_r <| WE.blk_r <| WE.then_r ?_; rotate_left)
          exact WE.ret2 b rfl rfl rfl rfl (by rw [hv]; rfl) trivial (by rw [hv]; exact Mem.pick [0] (by decide) rfl)
    · have h4' := h4 rfl
      have hx : ((runesBytes l).extract 4 (runesBytes l).size).size = (runesBytes l).size - 4 := by rw [ByteArray.size_extract]; omega
      (refine r_as rfl rfl <| r_nx h52 <| c_cT rfl <| c_ex <| WE.then_x <| WE.then_x <| WE.blk_x <| WE.then_n h46 <| c_sq fun k59 h59 => c_rg <| r_mv rfl rfl ?_; rotate_left)
      refine r_sF Tryz.underlying9 rfl rfl (by omega) (by omega) rfl ?_
      refine WX.call (m1 := []) (m2 := []) rfl rfl rfl (decode_spec ((runesBytes l).extract 4 (runesBytes l).size) (by omega) _ _) rfl rfl (fun x _ => ?_)
      have hdp := @decP_props ((runesBytes l).extract 4 (runesBytes l).size)
      generalize decP ((runesBytes l).extract 4 (runesBytes l).size) = r at hdp hv ⊢
      cases r with
      | none =>
        simp only [decV, decM, ecv]
        cases b3
        · (refine r_mv rfl rfl <| r_ex rfl rfl rfl <| r_ex rfl rfl rfl <| r_as rfl rfl <| r_as rfl rfl <| r_nx h59 <| c_sq fun k66 h66 => c_rg <| r_mv rfl rfl <| r_mv rfl rfl <| r_mv rfl rfl <| r_bk (.bool true) rfl rfl (fun _ => by kernel_rfl) rfl <| r_pF rfl rfl rfl <| r_mv rfl rfl <| r_sk rfl rfl <| r_sk rfl rfl <| r_sk rfl rfl <| r_pT rfl rfl rfl <| r_nx h66 <| c_cT rfl <| c_sq fun k68 h68 => c_rg <| r_mi rfl (fun _ => by kernel_rfl) rfl ?_; rotate_left)
          refine WX.call (m1 := []) (m2 := _) rfl rfl rfl (wrap_spec sLabel [] 2 _ _) rfl rfl (fun b _ => ?_)
          (refine r_as rfl rfl <| r_as rfl rfl <| r_nx h68 <| c_rt <| WE.blk_r <| WE.then_r <| WE.blk_r <| WE.then_r <| WE.blk_r <| WE.then_r <| WE.blk_r <| WE.then_r ?_; rotate_left)
          exact WE.ret2 b rfl rfl rfl rfl (by rw [hv]; rfl) trivial (by rw [hv]; exact Mem.pick [0] (by decide) rfl)
        · (refine r_mv rfl rfl <| r_ex rfl rfl rfl <| r_ex rfl rfl rfl <| r_as rfl rfl <| r_as rfl rfl <| r_nx h59 <| c_sq fun k66 h66 => c_rg <| r_mv rfl rfl <| r_mv rfl rfl <| r_sk rfl rfl <| r_sk rfl rfl <| r_pT rfl rfl rfl <| r_mv rfl rfl <| r_sk rfl rfl <| r_sk rfl rfl <| r_sk rfl rfl <| r_pT rfl rfl rfl <| r_nx h66 <| c_cT rfl <| c_sq fun k68 h68 => c_rg <| r_mi rfl (fun _ => by kernel_rfl) rfl ?_; rotate_left)
          refine WX.call (m1 := []) (m2 := _) rfl rfl rfl (wrap_spec sLabel [] 2 _ _) rfl rfl (fun b _ => ?_)
          (refine r_as rfl rfl <| r_as rfl rfl <| r_nx h68 <| c_rt <| WE.blk_r <| WE.then_r <| WE.blk_r <| WE.then_r <| WE.blk_r <| WE.then_r <| WE.blk_r <| WE.then_r ?_; rotate_left)
          exact WE.ret2 b rfl rfl rfl rfl (by rw [hv]; rfl) trivial (by rw [hv]; exact Mem.pick [0] (by decide) rfl)
      | some d =>
        obtain ⟨g1, g2⟩ := hdp rfl
        simp only [decV, decM]
        dsimp only at hv
        cases b3
        · (refine r_mv rfl rfl <| r_ex rfl rfl rfl <| r_ex rfl rfl rfl <| r_as rfl rfl <| r_as rfl rfl <| r_nx h59 <| c_sq fun k73 h73 => c_rg <| r_mv rfl rfl <| r_mv rfl rfl <| r_mv rfl rfl <| r_bk (.bool false) rfl rfl (fun _ => by kernel_rfl) rfl <| r_pF rfl rfl rfl <| r_mv rfl rfl <| r_mv rfl rfl ?_; rotate_left)
          have hm : ∀ mm, Rd w0 mm x.2.1 (runes d) → PureC Tryz.prog 19 [SlR x.2 d] w0 mm (.bool (mayP d)) := fun mm h => may_spec x.2.1 x.2.2 d (by omega) (fun n hn => by have := g1 n hn; omega) w0 mm h
          generalize mayP d = b4 at hm hv
          refine WX.pure rfl rfl (hm _ (Rd.own 0 rfl)) rfl rfl ?_
          cases b4
          · (refine r_no rfl rfl rfl <| r_pF rfl rfl rfl <| r_nx h73 <| c_cT rfl <| c_sq fun k77 h77 => c_rg <| r_mi rfl (fun _ => by kernel_rfl) rfl ?_; rotate_left)
            refine WX.call (m1 := []) (m2 := _) rfl rfl rfl (wrap_spec sLabel [] 2 _ _) rfl rfl (fun b _ => ?_)
            (refine r_as rfl rfl <| r_as rfl rfl <| r_nx h77 <| c_rt <| WE.blk_r <| WE.then_r <| WE.blk_r <| WE.then_r <| WE.blk_r <| WE.then_r <| WE.blk_r <| WE.then_r ?_; rotate_left)
            exact WE.ret2 b rfl rfl rfl rfl (by rw [hv]; rfl) trivial (by rw [hv]; exact Mem.pick [0] (by decide) rfl)
          · (refine r_no rfl rfl rfl <| r_pF rfl rfl rfl <| r_nx h73 <| c_cF rfl <| c_sk <| WE.blk_n <| WE.then_n h44 <| c_sq fun k77 h77 => c_rg <| r_mv rfl rfl <| r_as rfl rfl <| r_nx h77 <| c_ex <| WE.blk_y rfl <| WE.then_x <| WE.blk_y rfl <| WE.then_x <| WE.blk_x <| WE.then_n h38 <| c_sq fun k79 h79 => c_rg <| r_mv rfl rfl <| r_as rfl rfl <| r_as rfl rfl <| r_nx h79 <| c_rt ?_; rotate_left)
            exact WE.ret2 0 rfl rfl rfl rfl (by rw [hv]; rfl) trivial (by rw [hv]; exact Mem.drop)
        · (refine r_mv rfl rfl <| r_ex rfl rfl rfl <| r_ex rfl rfl rfl <| r_as rfl rfl <| r_as rfl rfl <| r_nx h59 <| c_sq fun k73 h73 => c_rg <| r_mv rfl rfl <| r_mv rfl rfl <| r_sk rfl rfl <| r_sk rfl rfl <| r_pT rfl rfl rfl <| r_mv rfl rfl <| r_sk rfl rfl <| r_sk rfl rfl <| r_sk rfl rfl <| r_pT rfl rfl rfl <| r_nx h73 <| c_cT rfl <| c_sq fun k75 h75 => c_rg <| r_mi rfl (fun _ => by kernel_rfl) rfl ?_; rotate_left)
          refine WX.call (m1 := []) (m2 := _) rfl rfl rfl (wrap_spec sLabel [] 2 _ _) rfl rfl (fun b _ => ?_)
          (refine r_as rfl rfl <| r_as rfl rfl <| r_nx h75 <| c_rt <| WE.blk_r <| WE.then_r <| WE.blk_r <| WE.then_r <| WE.blk_r <| WE.then_r <| WE.blk_r <| WE.then_r ?_; rotate_left)
          exact WE.ret2 b rfl rfl rfl rfl (by rw [hv]; rfl) trivial (by rw [hv]; exact Mem.pick [0] (by decide) rfl)
  · (refine r_nx h29 <| c_cT rfl <| c_sq fun k34 h34 => c_rg <| r_mi rfl (fun _ => by kernel_rfl) rfl ?_; rotate_left)
    refine WX.call (m1 := []) (m2 := _) rfl rfl rfl (wrap_spec sLabel [] 2 _ _) rfl rfl (fun b _ => ?_)
    (refine r_as rfl rfl <| r_as rfl rfl <| r_nx h34 <| c_rt <| WE.then_r ?_; rotate_left)
    exact WE.ret2 b rfl rfl rfl rfl (by rw [hv]; rfl) trivial (by rw [hv]; exact Mem.pick [0] (by decide) rfl)
end Go.Proofs.YthnabbidlmihbaaGreatDoor

/- Regions that draw their order, where operations are taken in an order of the prover's. -/
set_option linter.unusedVariables false
namespace Go.Gp
open Go.RowKit
/-- Those of a list have come up. -/
def fl (n : Nat) (L : List Nat) : Array Bool := ((List.range n).map fun i => L.elem i).toArray
def WG (mk : List Res) (C : Cx) (Q : Po) (ops : Array Oper) (L : List Nat) (l : List (Nat × Value)) (m : List Res) : Prop :=
  ∀ a w, C.St l m a w → wpAnyH C.P .any ops (NP Q) (fun w => Mem C.w0 (mk ++ C.m0) w) (ops.size - L.length) (fl ops.size L) a w

/-- Number k may be taken first. -/
def takeBL (ops : Array Oper) (L : List Nat) (k : Nat) : Bool :=
  Region.noSelect ops && (Nat.blt k ops.size && Nat.blt L.length ops.size) && Region.free .any ops (fl ops.size L) k && (Region.ready .any ops (fl ops.size L)).contains k && ((fl ops.size L).setIfInBounds k true == fl ops.size (k :: L))
/-- Number k alone may come up. -/
def soleBL (ops : Array Oper) (L : List Nat) (k : Nat) : Bool :=
  (Nat.blt k ops.size && Nat.blt L.length ops.size) && (Region.ready .any ops (fl ops.size L) == [k]) && ((fl ops.size L).setIfInBounds k true == fl ops.size (k :: L))

section
variable {mk : List Res} {C : Cx} {Q : Po} {l : List (Nat × Value)} {m : List Res} {ops : Array Oper} {L : List Nat} {k : Nat}

theorem WC.heldL {i : Nat} {ops : List Oper} (mk : List Res) (hr : C.r = none) (hm : C.P.follows .mixedOrders = true) (h : WG mk C Q ops.toArray [] l m) : WC C Q (.region i ops.toArray true) l m := by
  unfold WC
  intro a w hs
  have e : FW C.r = Fence.wide := by rw [hr]; rfl
  rw [e]
  refine wpIn_wide.2 (Code.wp_mono NP.imp (wp_region_held (S := fun w => Mem C.w0 (mk ++ C.m0) w) hm ?_))
  have h' := h a { w with drawn := w.drawn + 1 } ⟨hs.1, hs.2.drew⟩
  have e2 : fl ops.toArray.size [] = Array.replicate ops.toArray.size false := by
    apply Array.ext
    · simp [fl]
    · intro j h1 h2
      simp [fl]
  rw [show ops.toArray.size - ([] : List Nat).length = ops.toArray.size from rfl, e2] at h'
  exact h'

theorem WG.take {o : Oper} {v : Value} {d : Nat} (hi : ops[k]? = some o) (hB : takeBL ops L k = true) (hv : Qv C l mk o v) (hd : o.dst = some d) (hdn : Nat.blt d C.n = true) (hg : wants ops l o.guard = some true)
    (hS : ∀ w, Mem C.w0 (m ++ C.m0) w → Mem C.w0 (mk ++ C.m0) w) (h : WG mk C Q ops (k :: L) ((d, v) :: l) m) : WG mk C Q ops L l m := by
  intro a w hs
  simp only [takeBL, Bool.and_eq_true, beq_iff_eq] at hB
  obtain ⟨⟨⟨⟨h1, h2⟩, h3⟩, h4⟩, h5⟩ := hB
  have hlt : k < ops.size ∧ L.length < ops.size := by simpa using h2
  rw [show ops.size - L.length = ops.size - (k :: L).length + 1 by rw [List.length_cons]; omega]
  refine wpAnyH_take hi h1 h3 h4 (fun _ _ _ h => h) (v := v) (.inl ⟨wanted_of hs.1 hg, fun w' hw' => hv a.eval (ev_of hs.1) w' hw'⟩) (hS w hs.2) ?_
  rw [h5, hd]
  exact h _ w ⟨hs.1.put d v hdn, hs.2⟩
theorem WG.pass {o : Oper} {d : Nat} (hi : ops[k]? = some o) (hB : takeBL ops L k = true) (hd : o.dst = some d) (hdn : Nat.blt d C.n = true) (hg : wants ops l o.guard = some false)
    (hS : ∀ w, Mem C.w0 (m ++ C.m0) w → Mem C.w0 (mk ++ C.m0) w) (h : WG mk C Q ops (k :: L) ((d, undef) :: l) m) : WG mk C Q ops L l m := by
  intro a w hs
  simp only [takeBL, Bool.and_eq_true, beq_iff_eq] at hB
  obtain ⟨⟨⟨⟨h1, h2⟩, h3⟩, h4⟩, h5⟩ := hB
  have hlt : k < ops.size ∧ L.length < ops.size := by simpa using h2
  rw [show ops.size - L.length = ops.size - (k :: L).length + 1 by rw [List.length_cons]; omega]
  refine wpAnyH_take hi h1 h3 h4 (fun _ _ _ h => h) (v := undef) (.inr ⟨wanted_of hs.1 hg, rfl⟩) (hS w hs.2) ?_
  rw [h5, hd]
  exact h _ w ⟨hs.1.put d undef hdn, hs.2⟩

theorem WG.sole {o : Oper} (hi : ops[k]? = some o) (hB : soleBL ops L k = true) (hg : wants ops l o.guard = some true)
    (h : ∀ a w, C.St l m a w → o.wp C.P a w (fun a' w' => Mem C.w0 (mk ++ C.m0) w' ∧ wpAnyH C.P .any ops (NP Q) (fun w => Mem C.w0 (mk ++ C.m0) w) (ops.size - (k :: L).length) (fl ops.size (k :: L)) a' w') (NP Q)) : WG mk C Q ops L l m := by
  intro a w hs
  simp only [soleBL, Bool.and_eq_true, beq_iff_eq] at hB
  obtain ⟨⟨h2, h3⟩, h5⟩ := hB
  have hlt : k < ops.size ∧ L.length < ops.size := by simpa using h2
  rw [show ops.size - L.length = ops.size - (k :: L).length + 1 by rw [List.length_cons]; omega]
  refine wpAnyH_all h3 (by simp) (fun i hi' => ?_)
  rw [List.mem_singleton] at hi'
  subst hi'
  rw [h5]
  unfold wpOp
  simp only [hi, wanted_of hs.1 hg, if_true]
  exact .inl (h a w hs)
theorem WG.ev {α : Type} {o : Oper} {φ : α → Prop} {v : α → Value} {m' : α → List Res} {d : Nat} (hi : ops[k]? = some o) (hB : soleBL ops L k = true) (hv : Ev C l m o φ v m') (hd : o.dst = some d) (hdn : Nat.blt d C.n = true) (hg : wants ops l o.guard = some true)
    (hS : ∀ x w, Mem C.w0 (m' x ++ C.m0) w → Mem C.w0 (mk ++ C.m0) w) (h : ∀ x, φ x → WG mk C Q ops (k :: L) ((d, v x) :: l) (m' x)) : WG mk C Q ops L l m :=
  WG.sole hi hB hg fun a w hs => by
    obtain ⟨x, w', hx, hr, hm⟩ := hv a.eval (ev_of hs.1) w hs.2
    unfold Oper.wp
    rw [hr, Oper.upon_value, hd]
    exact ⟨hS x _ hm, h x hx _ _ ⟨hs.1.put d _ hdn, hm⟩⟩
theorem WG.st {o : Oper} {m' : List Res} (hi : ops[k]? = some o) (hB : soleBL ops L k = true) (hv : Sv C l m o m') (hd : o.dst = none) (hg : wants ops l o.guard = some true)
    (hS : ∀ w, Mem C.w0 (m' ++ C.m0) w → Mem C.w0 (mk ++ C.m0) w) (h : WG mk C Q ops (k :: L) l m') : WG mk C Q ops L l m :=
  WG.sole hi hB hg fun a w hs => by
    obtain ⟨w', hr, hm⟩ := hv a.eval (ev_of hs.1) w hs.2
    unfold Oper.wp
    rw [hr, Oper.upon_skip, hd]
    exact ⟨hS _ hm, h _ _ ⟨hs.1, hm⟩⟩
theorem WG.qv {o : Oper} {v : Value} {d : Nat} (hi : ops[k]? = some o) (hB : soleBL ops L k = true) (hv : Qv C l m o v) (hd : o.dst = some d) (hdn : Nat.blt d C.n = true) (hg : wants ops l o.guard = some true)
    (hS : ∀ w, Mem C.w0 (m ++ C.m0) w → Mem C.w0 (mk ++ C.m0) w) (h : WG mk C Q ops (k :: L) ((d, v) :: l) m) : WG mk C Q ops L l m :=
  WG.ev (α := Unit) (φ := fun _ => True) (v := fun _ => v) (m' := fun _ => m) hi hB (fun ev hev w hw => ⟨(), w, trivial, hv ev hev w hw, hw⟩) hd hdn hg (fun _ => hS) (fun _ _ => h)
theorem WG.call {α : Type} {φ : α → Prop} {val : α → Value} {M : α → List Res} {d : Nat} {ty : TypeId} {pos : String} {af : Array Edge} {g : Option (Nat × Bool)} {fo : Operand} {xs : List Operand} {ts : Array TypeId} {f : FuncId} {vs cs : List Value} {m1 m2 : List Res}
    (hi : ops[k]? = some ⟨some d, .call { callee := .value fo, args := xs.toArray, argTypes := ts }, ty, pos, af, g⟩) (hB : soleBL ops L k = true)
    (hfo : opv l fo = some (.func (.func f) #[] cs.toArray)) (hxs : opvs l xs = some vs) (hm : m = m1 ++ m2) (hsp : Ct C.P f (vs ++ cs) C.w0 m1 (m2 ++ C.m0) φ val M) (hdn : Nat.blt d C.n = true) (hg : wants ops l g = some true)
    (hS : ∀ x w, Mem C.w0 (M x ++ m2 ++ C.m0) w → Mem C.w0 (mk ++ C.m0) w) (h : ∀ x, φ x → WG mk C Q ops (k :: L) ((d, val x) :: l) (M x ++ m2)) : WG mk C Q ops L l m :=
  WG.sole hi hB hg fun a w hs => by
    unfold Ct at hsp
    have hrun := run_call hsp.1 (ev := a.eval) (d := some d) (ty := ty) (pos := pos) (af := af) (g := g) (ts := ts) (ev_of hs.1 _ _ hfo) (opvs_map (ev_of hs.1) xs vs hxs) w
    unfold Oper.wp
    rw [hrun, Oper.upon_enter]
    refine (hsp.2 w (by rw [← List.append_assoc, ← hm]; exact hs.2)).mono fun e w' hh => ?_
    unfold sp at hh
    obtain ⟨x, hx, rfl, hmem⟩ := hh
    have hmem' : Mem C.w0 (M x ++ m2 ++ C.m0) w' := by rw [List.append_assoc]; exact hmem
    exact ⟨hS x _ hmem', h x hx _ _ ⟨hs.1.put d _ hdn, hmem'⟩⟩
theorem WG.nil (hr : Region.ready .any ops (fl ops.size L) = []) (h : WE C Q .normal l m) : WG mk C Q ops L l m := by
  intro a w hs
  unfold WE at h
  exact wpAnyH_done (Q := NP Q) hr (show NP Q .normal a w from h a w hs) _
end
end Go.Gp

/- (*strings.Builder).grow of a builder that holds nothing: the walk. -/
namespace Go.Proofs.YthnabbidlmihbaaGreatDoor
open Go.RowKit Go.Gp

theorem x_noZero (n : Nat) (hn : n ≤ 1000000000000) (w : World) : ∃ cs : Array Value, (callFunc 95 #[.int .i64 n]).run Tryz.prog w = .ok (.value (.slice (some ⟨w.heap.size, 0, none⟩) n cs.size)) (w.drew.drew.alloc (.cells cs 5)) ∧ n ≤ cs.size ∧ cs.size ≤ maxLen := by
  obtain ⟨cs, h1, h2, h3⟩ := Go.Lib.run_makeNoZero (P := Tryz.prog) w #[3] 69 5 Tryz.underlying69 n (by omega)
  refine ⟨cs, ?_, h2, h3 (by unfold maxLen; omega)⟩
  rw [run_callFunc_extern (e := Extern.BytealgMakeNoZero.makeNoZero #[3] #[69]) Tryz.func95 (by kernel_rfl) (by kernel_rfl) (by kernel_rfl) (by kernel_rfl), h1]
  rfl
theorem grown_dda (w : World) (o : Obj) : w.grownBy (w.drew.drew.alloc o) none :=
  let q := World.grownBy_alloc w.drew.drew o none
  ⟨q.os, q.tape, q.output, q.size, q.block⟩
theorem elemB : Tryz.prog.underlying 69 = some (.slice (Tryz.prog.elem 69)) := by kernel_rfl
theorem sizeB (w : World) : (sizeOf (Tryz.prog.elem 69)).run Tryz.prog w = .ok 1 w := by kernel_rfl
set_option maxRecDepth 100000 in
theorem grow_spec (u : Bool) (g : Nat) (n : Nat) (hn : n ≤ 1000000000000) (w0 : World) (m0 : List Res) :
    Ct (α := Option Addr × Nat) Tryz.prog 85 [.pointer (some ⟨g, 0, none⟩), .int .i64 n] w0 [BB u g (none, 0) []] m0 (fun _ => True) (fun _ => .tuple #[]) (fun p => [BB u g p [], OwnB p []]) := by
  refine Ct.of Tryz.func85 rfl (by kernel_rfl) rfl ?_
  (refine c_sq fun k7 h7 => ?_)
  refine WC.heldL [BB u g (none, 0) []] rfl (by kernel_rfl) ?_
  refine WG.take (k := 0) (d := 5) rfl (by kernel_rfl) (Qv.move rfl) rfl rfl rfl Mem.keep ?_
  refine WG.take (k := 1) (d := 6) rfl (by kernel_rfl) (Qv.nilCheck rfl) rfl rfl rfl Mem.keep ?_
  refine WG.take (k := 2) (d := 7) rfl (by kernel_rfl) (Qv.fieldAddr (b := ⟨g, 1, none⟩) rfl (fun _ => by kernel_rfl)) rfl rfl rfl Mem.keep ?_
  refine WG.take (k := 3) (d := 8) rfl (by kernel_rfl) (Qv.load_blk (i := 0) Tryz.underlying69 rfl rfl rfl rfl) rfl rfl rfl Mem.keep ?_
  refine WG.take (k := 4) (d := 9) rfl (by kernel_rfl) (Qv.cap Tryz.underlying69 rfl) rfl rfl rfl Mem.keep ?_
  refine WG.take (k := 5) (d := 10) rfl (by kernel_rfl) (Qv.mul (r := 0) rfl rfl (by decide)) rfl rfl rfl Mem.keep ?_
  refine WG.take (k := 6) (d := 11) rfl (by kernel_rfl) (Qv.move rfl) rfl rfl rfl Mem.keep ?_
  refine WG.take (k := 7) (d := 12) rfl (by kernel_rfl) (Qv.add (r := (n : Int)) rfl rfl (by rw [Int.zero_add]; exact w64 (by omega))) rfl rfl rfl Mem.keep ?_
  refine WG.take (k := 9) (d := 14) rfl (by kernel_rfl) (Qv.move rfl) rfl rfl rfl Mem.keep ?_
  refine WG.take (k := 10) (d := 15) rfl (by kernel_rfl) (Qv.nilCheck rfl) rfl rfl rfl Mem.keep ?_
  refine WG.take (k := 11) (d := 16) rfl (by kernel_rfl) (Qv.fieldAddr (b := ⟨g, 1, none⟩) rfl (fun _ => by kernel_rfl)) rfl rfl rfl Mem.keep ?_
  refine WG.take (k := 12) (d := 17) rfl (by kernel_rfl) (Qv.load_blk (i := 0) Tryz.underlying69 rfl rfl rfl rfl) rfl rfl rfl Mem.keep ?_
  refine WG.take (k := 13) (d := 18) rfl (by kernel_rfl) (Qv.len_slice Tryz.underlying69 rfl) rfl rfl rfl Mem.keep ?_
  refine WG.ev (k := 8) (d := 13) (α := Nat × Nat) (φ := fun _ => True) (v := fun p => .slice (some ⟨p.1, 0, none⟩) n p.2) (m' := fun p => [BB u g (none, 0) [], OwnB (some ⟨p.1, 0, none⟩, p.2) []]) rfl (by kernel_rfl) (fun ev hev w hw => by
    obtain ⟨cs, h1, h2, h3⟩ := x_noZero n hn w
    refine ⟨(w.heap.size, cs.size), w.drew.drew.alloc (.cells cs 5), trivial, exec_call (xs := [.tmp 12]) (vs := [.int .i64 n]) rfl rfl hev h1, ?_⟩
    have hq : Mem w0 (OwnB (some ⟨w.heap.size, 0, none⟩, cs.size) [] :: ([BB u g (none, 0) []] ++ m0)) (w.drew.drew.alloc (.cells cs 5)) := by
      refine Mem.add hw (grown_dda w _) ?_ (fun k hk => by simp [Res.block] at hk; omega)
      exact ⟨rfl, .inr ⟨w.heap.size, cs.size, cs, rfl, hw.bnd, heap_alloc_new w.drew.drew _, Nat.zero_le _, h3, by simp, by simp⟩⟩
    exact Mem.pick (m := [OwnB (some ⟨w.heap.size, 0, none⟩, cs.size) [], BB u g (none, 0) []]) [1, 0] (by decide) rfl _ hq) rfl rfl rfl (fun p => Mem.pick [0] (by decide) rfl) (fun p _ => ?_)
  refine WG.qv (k := 14) (d := 19) rfl (by kernel_rfl) (Qv.st0 0 elemB sizeB rfl rfl rfl (Nat.zero_le _)) rfl rfl rfl (Mem.pick [0] (by decide) rfl) ?_
  refine WG.qv (k := 15) (d := 4) rfl (by kernel_rfl) (Qv.assign rfl) rfl rfl rfl (Mem.pick [0] (by decide) rfl) ?_
  refine WG.nil (by kernel_rfl) ?_
  (refine WE.then_n h7 <| c_sq fun k11 h11 => c_rg <| r_mv rfl rfl <| r_mv rfl rfl <| r_nc rfl rfl <| r_fa 1 rfl (fun _ => by kernel_rfl) rfl <| r_lb 0 Tryz.underlying69 rfl rfl rfl rfl rfl ?_; rotate_left)
  refine WX.q (d := 25) (v := .int .i64 0) (fun ev hev w _ => by
    have h1 := hev (.tmp 20) (.slice (some ⟨p.1, 0, none⟩) 0 p.2) rfl
    have h2 := hev (.tmp 24) (.slice none 0 0) rfl
    have hrun := run_copy_none (P := Tryz.prog) w 69 69 3 5 (some ⟨p.1, 0, none⟩) none 0 p.2 0 0 Tryz.underlying69 (by kernel_rfl) rfl
    simp only [goInt] at hrun
    simp [execOp, resolve, invoke, builtin, h1, h2, hrun]) rfl rfl rfl rfl ?_
  (refine r_nx h11 <| c_rg <| r_mv rfl rfl <| r_mv rfl rfl <| r_nc rfl rfl <| r_fa 1 rfl (fun _ => by kernel_rfl) rfl <| r_st 0 (by kernel_rfl) rfl rfl rfl rfl rfl rfl rfl <| r_nl ?_; rotate_left)
  exact WE.end0 (some ⟨p.1, 0, none⟩, p.2) rfl rfl rfl trivial Mem.keep
end Go.Proofs.YthnabbidlmihbaaGreatDoor

/- (*strings.Builder).Grow, strings.Join: the walks. -/
namespace Go.Proofs.YthnabbidlmihbaaGreatDoor
open Go.RowKit Go.Gp

set_option maxRecDepth 100000 in
theorem bGrow_spec (u : Bool) (g : Nat) (n : Nat) (hn : n ≤ 1000000000000) (w0 : World) (m0 : List Res) :
    Ct (α := Option Addr × Nat) Tryz.prog 65 [.pointer (some ⟨g, 0, none⟩), .int .i64 n] w0 [BB u g (none, 0) []] m0 (fun _ => True) (fun _ => .tuple #[]) (fun p => [BB true g p [], OwnB p []]) := by
  refine Ct.of Tryz.func65 rfl (by kernel_rfl) rfl ?_
  (refine c_sq fun k7 h7 => c_rg <| r_mv rfl rfl ?_; rotate_left)
  refine WX.call (m1 := [BB u g (none, 0) []]) (m2 := []) rfl rfl rfl (copyCheck_spec u g _ _ _) rfl rfl (fun _ _ => ?_)
  (refine r_nx h7 <| c_sq fun k11 h11 => c_sq fun k13 h13 => c_rg <| r_mv rfl rfl <| r_ltF rfl rfl rfl (by omega) <| r_nx h13 <| c_cF rfl <| c_sk <| WE.then_n h11 <| c_sq fun k15 h15 => c_dr rfl (by kernel_rfl) (by kernel_rfl) <| r_mv rfl rfl <| r_nc rfl rfl <| r_fa 1 rfl (fun _ => by kernel_rfl) rfl <| r_lb 0 Tryz.underlying69 rfl rfl rfl rfl rfl ?_; rotate_left)
  refine r_cp Tryz.underlying69 rfl rfl ?_
  by_cases h0 : n = 0
  · (refine r_mv rfl rfl <| r_nc rfl rfl <| r_fa 1 rfl (fun _ => by kernel_rfl) rfl <| r_lb 0 Tryz.underlying69 rfl rfl rfl rfl rfl <| r_ls Tryz.underlying69 rfl rfl ?_; rotate_left)
    refine r_su (r := 0) rfl rfl rfl rfl ?_
    (refine r_mv rfl rfl <| r_ltF rfl rfl rfl (by omega) <| r_nx h15 <| c_cF rfl <| c_sk ?_; rotate_left)
    exact WE.end0 (none, 0) rfl rfl rfl trivial (fun w hw => Mem.pick (m' := [BB true g (none, 0) [], OwnB (none, 0) []]) [1, 0] (by decide) rfl w (Mem.addNil _ _ w hw))
  · (refine r_mv rfl rfl <| r_nc rfl rfl <| r_fa 1 rfl (fun _ => by kernel_rfl) rfl <| r_lb 0 Tryz.underlying69 rfl rfl rfl rfl rfl <| r_ls Tryz.underlying69 rfl rfl ?_; rotate_left)
    refine r_su (r := 0) rfl rfl rfl rfl ?_
    (refine r_mv rfl rfl <| r_ltT rfl rfl rfl (by omega) <| r_nx h15 <| c_cT rfl <| c_rg <| r_mv rfl rfl <| r_mv rfl rfl ?_; rotate_left)
    refine WX.call (m1 := [BB true g (none, 0) []]) (m2 := []) rfl rfl rfl (grow_spec true g n hn _ _) rfl rfl (fun p _ => ?_)
    (refine r_nl ?_; rotate_left)
    exact WE.end0 p rfl rfl rfl trivial Mem.keep
abbrev strsV (l : List ByteArray) : List Value := l.map (.string ·)
def catB (l : List ByteArray) : List UInt8 := l.flatMap fun s => s.data.toList
def tailJ (sep : ByteArray) (l : List ByteArray) : List UInt8 := l.flatMap fun s => sep.data.toList ++ s.data.toList
/-- The texts, with another between. -/
def joinP (sep : ByteArray) : List ByteArray → ByteArray
  | [] => ⟨#[]⟩
  | [s] => s
  | s :: r => strOf' (s.data.toList ++ tailJ sep r)
where strOf' (l : List UInt8) : ByteArray := ⟨l.toArray⟩
end Go.Proofs.YthnabbidlmihbaaGreatDoor

/- strings.Join with a dot: the walk. -/
namespace Go.Proofs.YthnabbidlmihbaaGreatDoor
open Go.RowKit Go.Gp

def dotB : ByteArray := ⟨#[46]⟩
def sumN (l : List ByteArray) : Nat := (l.map ByteArray.size).sum
theorem sumN_snoc (l : List ByteArray) (s : ByteArray) : sumN (l ++ [s]) = sumN l + s.size := by simp [sumN]
theorem takeS {l : List ByteArray} {i : Nat} (h : i < l.length) : l.take (i + 1) = l.take i ++ [l.getD i ⟨#[]⟩] := by
  rw [List.take_add_one, List.getElem?_eq_getElem h]
  simp [h]
theorem sumN_le (l : List ByteArray) (h : ∀ s ∈ l, s.size ≤ 500000) : sumN l ≤ 500000 * l.length := by
  induction l with
  | nil => simp [sumN]
  | cons s l ih =>
    have h1 := h s (by simp)
    have h2 := ih (fun t ht => h t (by simp [ht]))
    have h3 : sumN (s :: l) = s.size + sumN l := by simp [sumN]
    rw [h3, List.length_cons]
    omega
theorem Rd.drop1 {w0 : World} {m : List Res} {A : Option Addr} {l : List ByteArray} (h : Rd w0 m A (strsV l)) : Rd w0 m (A.map (·.add 1)) (strsV (l.drop 1)) := by
  unfold Rd at h ⊢
  intro w hw j v hj
  have h2 : (strsV l)[1 + j]? = some v := by
    rw [strsV, List.map_drop, List.getElem?_drop] at hj
    exact hj
  obtain ⟨a, ha, hc⟩ := h w hw (1 + j) v h2
  exact ⟨a.add 1, by rw [ha]; rfl, by rw [Addr.add_add]; exact hc⟩
theorem elemS : Tryz.prog.underlying 45 = some (.slice (Tryz.prog.elem 45)) := by kernel_rfl
theorem sizeS (w : World) : (sizeOf (Tryz.prog.elem 45)).run Tryz.prog w = .ok 1 w := by kernel_rfl
theorem tailJ_snoc (l : List ByteArray) (s : ByteArray) : tailJ dotB (l ++ [s]) = tailJ dotB l ++ dotB.data.toList ++ s.data.toList := by simp [tailJ]
theorem tailJ_len (l : List ByteArray) : (tailJ dotB l).length = l.length + sumN l := by
  induction l with
  | nil => rfl
  | cons s l ih =>
    have h3 : sumN (s :: l) = s.size + sumN l := by simp [sumN]
    have h4 : tailJ dotB (s :: l) = dotB.data.toList ++ s.data.toList ++ tailJ dotB l := by simp [tailJ]
    have h5 : s.data.toList.length = s.size := by simp
    have h6 : dotB.data.toList.length = 1 := rfl
    rw [h3, h4, List.length_append, List.length_append, ih, List.length_cons, h5, h6]
    omega
set_option maxRecDepth 100000 in
theorem join_spec (A : Option Addr) (c : Nat) (l : List ByteArray) (hn : l.length ≤ 1000000) (hs : ∀ s ∈ l, s.size ≤ 500000) (hc : l.length ≤ c) (w0 : World) (m0 : List Res) (hA : Rd w0 m0 A (strsV l)) :
    PureC Tryz.prog 31 [.slice A l.length c, .string dotB] w0 m0 (.string (joinP dotB l)) := by
  refine Ct.of Tryz.func31 rfl (by kernel_rfl) rfl ?_
  by_cases h0 : l.length = 0
  · (refine c_sq fun k11 h11 => c_rg <| r_as rfl rfl <| r_nx h11 <| c_sq fun k13 h13 => c_sq fun k15 h15 => c_rg <| r_mv rfl rfl <| r_ls Tryz.underlying45 rfl rfl <| r_nx h15 <| c_bl <| c_sq fun k17 h17 => c_rg <| r_eqT rfl rfl rfl (by omega) <| r_as rfl rfl <| r_nx h17 <| c_cT rfl <| c_sq fun k19 h19 => c_rg <| r_as rfl rfl <| r_nx h19 <| c_rt <| WE.blk_r <| WE.then_r ?_; rotate_left)
    have e0 : l = [] := List.eq_nil_of_length_eq_zero h0
    exact WE.ret1 () rfl rfl (by rw [e0]; rfl) trivial Mem.drop
  · by_cases h1 : l.length = 1
    · (refine c_sq fun k12 h12 => c_rg <| r_as rfl rfl <| r_nx h12 <| c_sq fun k14 h14 => c_sq fun k16 h16 => c_rg <| r_mv rfl rfl <| r_ls Tryz.underlying45 rfl rfl <| r_nx h16 <| c_bl <| c_sq fun k18 h18 => c_rg <| r_eqF rfl rfl rfl (by omega) <| r_as rfl rfl <| r_nx h18 <| c_cF rfl <| c_sq fun k20 h20 => c_rg <| r_eqT rfl rfl rfl (by omega) <| r_as rfl rfl <| r_nx h20 <| c_cT rfl <| c_sq fun k22 h22 => c_rg <| r_mv rfl rfl <| r_im (hA.app _) Tryz.underlying45 (by kernel_rfl) rfl rfl rfl rfl (by omega) (by omega) <| r_lt (0) (hA.app _) Tryz.underlying9 rfl rfl rfl (by omega) <| r_as rfl rfl <| r_nx h22 <| c_rt <| WE.blk_r <| WE.then_r ?_; rotate_left)
      obtain ⟨s0, e0⟩ := List.length_eq_one_iff.1 h1
      exact WE.ret1 () rfl rfl (by rw [e0]; rfl) trivial Mem.drop
    · have hd : (dotB.size : Int) = 1 := rfl
      have hdiv : 1000000 ≤ 9223372036854775807 / ((l.length : Int) - 1) := Int.le_ediv_of_mul_le (by omega) (by omega)
      have hmul : (dotB.size : Int) * ((l.length : Int) - 1) = (l.length : Int) - 1 := by rw [hd, Int.one_mul]
      (refine c_sq fun k15 h15 => c_rg <| r_as rfl rfl <| r_nx h15 <| c_sq fun k17 h17 => c_sq fun k19 h19 => c_rg <| r_mv rfl rfl <| r_ls Tryz.underlying45 rfl rfl <| r_nx h19 <| c_bl <| c_sq fun k21 h21 => c_rg <| r_eqF rfl rfl rfl (by omega) <| r_as rfl rfl <| r_nx h21 <| c_cF rfl <| c_sq fun k23 h23 => c_rg <| r_eqF rfl rfl rfl (by omega) <| r_as rfl rfl <| r_nx h23 <| c_cF rfl <| c_sk <| WE.blk_n <| WE.then_n h17 <| c_sq fun k25 h25 => c_rg <| r_as rfl rfl <| r_nx h25 <| c_sq fun k27 h27 => c_sq fun k29 h29 => c_rg <| r_mv rfl rfl <| r_lS Tryz.underlying9 rfl rfl <| r_gtT rfl rfl rfl (by omega) <| r_nx h29 <| c_cT rfl <| c_sq fun k31 h31 => c_sq fun k33 h33 => c_rg <| r_mv rfl rfl <| r_lS Tryz.underlying9 rfl rfl <| r_mv rfl rfl <| r_ls Tryz.underlying45 rfl rfl <| r_su rfl rfl rfl (wsub64 (by omega)) <| r_qu rfl rfl rfl (by omega) (wquo64 (by omega)) <| r_geF rfl rfl rfl (by omega) <| r_nx h33 <| c_cF rfl <| c_sk <| WE.then_n h31 <| c_rg <| r_mv rfl rfl <| r_mv rfl rfl <| r_lS Tryz.underlying9 rfl rfl <| r_mv rfl rfl <| r_ls Tryz.underlying45 rfl rfl <| r_su rfl rfl rfl (wsub64 (by omega)) <| r_mu rfl rfl rfl (wmul64 (by omega)) <| r_ad rfl rfl rfl (wadd64 (by omega)) <| r_as rfl rfl <| r_nx h27 <| c_sq fun k35 h35 => c_sq fun k37 h37 => c_rg <| r_mv rfl rfl <| r_ls Tryz.underlying45 rfl rfl <| r_mv rfl rfl <| r_nx h37 <| c_bl ?_; rotate_left)
      have hs0 : sumN (l.take 0) = 0 := rfl
      refine WC.loop (α := Nat) (fun i => [(0, .slice A l.length c), (1, .string dotB), (5, .int .i64 ((l.length : Int) - 1 + (sumN (l.take i) : Int))), (39, .slice A l.length c), (40, .int .i64 l.length), (41, .int .i64 i)]) (fun _ => []) (fun i => i ≤ l.length) (fun i => l.length - i) 0 (by omega)
        ⟨rfl, rfl, congrArg (fun v => some (Value.int .i64 v)) (by rw [hs0, hmul]; omega), rfl, rfl, rfl, trivial⟩ Mem.keep ?_
      intro i hi
      have hle := sumN_le (l.take i) (fun t ht => hs t (List.mem_of_mem_take ht))
      have hti : (l.take i).length ≤ i := List.length_take_le _ _
      by_cases hlt : i < l.length
      · have hsi : (l.getD i ⟨#[]⟩).size ≤ 500000 := hs _ (by simp [hlt])
        have hsn := sumN_snoc (l.take i) (l.getD i ⟨#[]⟩)
        rw [← takeS hlt] at hsn
        (refine c_sq fun k48 h48 => c_rg <| r_ltT rfl rfl rfl (by omega) <| r_nx h48 <| c_sq fun k50 h50 => c_cT rfl <| c_sk <| WE.then_n h50 <| c_sq fun k52 h52 => c_bl <| c_sq fun k54 h54 => c_rg <| r_im (hA.app _) Tryz.underlying45 (by kernel_rfl) rfl rfl rfl rfl (by omega) (by omega) <| r_lt (i) (hA.app _) Tryz.underlying9 rfl rfl rfl (by omega) <| r_as rfl rfl <| r_nx h54 <| c_sq fun k56 h56 => c_sq fun k58 h58 => c_rg <| r_mv rfl rfl <| r_lS Tryz.underlying9 rfl rfl <| r_mv rfl rfl <| r_su rfl rfl rfl (wsub64 (by omega)) <| r_gtF rfl rfl rfl (by omega) <| r_nx h58 <| c_cF rfl <| c_sk <| WE.then_n h56 <| c_rg <| r_mv rfl rfl <| r_mv rfl rfl <| r_lS Tryz.underlying9 rfl rfl <| r_ad rfl rfl rfl (wadd64 (by omega)) <| r_as rfl rfl <| r_nl <| WE.blk_n <| WE.then_n h52 <| c_rg <| r_ad rfl rfl rfl (wadd64 (by omega)) <| r_mv rfl rfl <| r_nl ?_; rotate_left)
        exact WE.back (i + 1) (by omega) (by omega) ⟨rfl, rfl, congrArg (fun v => some (Value.int .i64 v)) (by rw [hsn]; omega), rfl, rfl, rfl, trivial⟩ Mem.keep
      · have hta : l.take i = l := List.take_of_length_le (by omega)
        rw [hta] at hle ⊢
        have hN : (l.length : Int) - 1 + (sumN l : Int) = ((l.length - 1 + sumN l : Nat) : Int) := by omega
        rw [hN]
        (refine c_sq fun k48 h48 => c_rg <| r_ltF rfl rfl rfl (by omega) <| r_nx h48 <| c_sq fun k50 h50 => c_cF rfl <| c_ex <| WE.then_x <| WE.then_x <| WE.blk_x <| WE.then_n h35 <| c_sq fun k52 h52 => c_rg <| r_al (z := .agg #[.pointer none, .slice none 0 0]) (cs := [.pointer none, .slice none 0 0]) (fun _ => by kernel_rfl) rfl rfl (fun _ => ?_); refine r_nx h52 <| c_sq fun k55 h55 => c_rg <| r_mv rfl rfl ?_; rotate_left)
        rename_i g
        refine WX.call (m1 := [BB false g (none, 0) []]) (m2 := []) rfl rfl rfl (bGrow_spec false g (l.length - 1 + sumN l) (by omega) _ _) rfl rfl (fun p _ => ?_)
        (refine r_nx h55 <| c_sq fun k59 h59 => c_rg <| r_mv rfl rfl <| r_im (hA.app _) Tryz.underlying45 (by kernel_rfl) rfl rfl rfl rfl (by omega) (by omega) <| r_lt (0) (hA.app _) Tryz.underlying9 rfl rfl rfl (by omega) ?_; rotate_left)
        have hs0' : (l.getD 0 ⟨#[]⟩).size ≤ 500000 := hs _ (by simp [show 0 < l.length by omega])
        have hb0 : (l.getD 0 ⟨#[]⟩).data.toList.length = (l.getD 0 ⟨#[]⟩).size := by simp
        refine WX.call (m1 := [BB true g p [], OwnB p []]) (m2 := []) rfl rfl rfl (writeString_spec true g p [] (l.getD 0 ⟨#[]⟩) (by rw [List.length_nil]; omega) _ _) rfl rfl (fun p1 _ => ?_)
        rw [List.nil_append]
        (refine r_nx h59 <| c_sq fun k65 h65 => c_sq fun k67 h67 => c_rg <| r_mv rfl rfl ?_; rotate_left)
        refine r_sf elemS sizeS rfl rfl (by omega) (by omega) rfl ?_
        have hsl : sliced A (Int.toNat 1) l.length c 1 = .slice (A.map (·.add 1)) (l.drop 1).length (c - 1) := by
          unfold sliced
          rw [if_neg (by omega), List.length_drop]
          rfl
        rw [hsl]
        have hR := Rd.drop1 hA
        have hld : (l.drop 1).length = l.length - 1 := by simp
        generalize hrest : l.drop 1 = rest at hR hld
        (refine r_ls Tryz.underlying45 rfl rfl <| r_mv rfl rfl <| r_nx h67 <| c_bl ?_; rotate_left)
        have hrs : ∀ t ∈ rest, t.size ≤ 500000 := fun t ht => hs t (by rw [← hrest] at ht; exact List.mem_of_mem_drop ht)
        generalize hb0e : (l.getD 0 ⟨#[]⟩).data.toList = b0 at hb0 ⊢
        refine WC.loop (α := Nat × (Option Addr × Nat)) (fun x => [(1, .string dotB), (8, .pointer (some ⟨g, 0, none⟩)), (63, .slice (A.map (·.add 1)) rest.length (c - 1)), (64, .int .i64 rest.length), (65, .int .i64 x.1)])
          (fun x => [BB true g x.2 (b0 ++ tailJ dotB (rest.take x.1)), OwnB x.2 (b0 ++ tailJ dotB (rest.take x.1))]) (fun x => x.1 ≤ rest.length) (fun x => rest.length - x.1) (0, p1) (by simp) ⟨rfl, rfl, rfl, rfl, rfl, trivial⟩
          (by dsimp only; rw [show b0 ++ tailJ dotB (rest.take 0) = b0 by simp [tailJ]]; exact Mem.keep) ?_
        rintro ⟨j, p⟩ hj
        dsimp only at hj ⊢
        have htl := tailJ_len (rest.take j)
        have hsl2 := sumN_le (rest.take j) (fun t ht => hrs t (List.mem_of_mem_take ht))
        have htj : (rest.take j).length ≤ rest.length := by simp; omega
        by_cases hjl : j < rest.length
        · have hej : (rest.getD j ⟨#[]⟩).size ≤ 500000 := hrs _ (by simp [hjl])
          have hsn := tailJ_snoc (rest.take j) (rest.getD j ⟨#[]⟩)
          rw [← takeS hjl] at hsn
          have hd1 : dotB.size = 1 := rfl
          have hd2 : dotB.data.toList.length = 1 := rfl
          (refine c_sq fun k90 h90 => c_rg <| r_ltT rfl rfl rfl (by omega) <| r_nx h90 <| c_sq fun k92 h92 => c_cT rfl <| c_sk <| WE.then_n h92 <| c_sq fun k94 h94 => c_bl <| c_sq fun k96 h96 => c_rg <| r_im (hR.app _) Tryz.underlying45 (by kernel_rfl) rfl rfl rfl rfl (by omega) (by omega) <| r_lt (j) (hR.app _) Tryz.underlying9 rfl rfl rfl (by omega) <| r_as rfl rfl <| r_nx h96 <| c_sq fun k98 h98 => c_rg <| r_mv rfl rfl ?_; rotate_left)
          refine WX.call (m1 := [BB true g p (b0 ++ tailJ dotB (rest.take j)), OwnB p (b0 ++ tailJ dotB (rest.take j))]) (m2 := []) rfl rfl rfl (writeString_spec true g p (b0 ++ tailJ dotB (rest.take j)) dotB (by rw [List.length_append]; omega) _ _) rfl rfl (fun p2 _ => ?_)
          (refine r_nx h98 <| c_rg <| r_mv rfl rfl ?_; rotate_left)
          refine WX.call (m1 := [BB true g p2 (b0 ++ tailJ dotB (rest.take j) ++ dotB.data.toList), OwnB p2 (b0 ++ tailJ dotB (rest.take j) ++ dotB.data.toList)]) (m2 := []) rfl rfl rfl (writeString_spec true g p2 (b0 ++ tailJ dotB (rest.take j) ++ dotB.data.toList) (rest.getD j ⟨#[]⟩) (by rw [List.length_append, List.length_append]; omega) _ _) rfl rfl (fun p3 _ => ?_)
          have hcon : b0 ++ tailJ dotB (rest.take j) ++ dotB.data.toList ++ (rest.getD j ⟨#[]⟩).data.toList = b0 ++ tailJ dotB (rest.take (j + 1)) := by
            rw [hsn]
            simp only [List.append_assoc]
          rw [hcon]
          (refine r_nl <| WE.blk_n <| WE.then_n h94 <| c_rg <| r_ad rfl rfl rfl (wadd64 (by omega)) <| r_mv rfl rfl <| r_nl ?_; rotate_left)
          exact WE.back (j + 1, p3) (by dsimp only; omega) (by dsimp only; omega) ⟨rfl, rfl, rfl, rfl, rfl, trivial⟩ Mem.keep
        · have htk : rest.take j = rest := List.take_of_length_le (by omega)
          rw [htk] at htl ⊢
          (refine c_sq fun k87 h87 => c_rg <| r_ltF rfl rfl rfl (by omega) <| r_nx h87 <| c_sq fun k89 h89 => c_cF rfl <| c_ex <| WE.then_x <| WE.then_x <| WE.blk_x <| WE.then_n h65 <| c_sq fun k91 h91 => c_rg ?_; rotate_left)
          refine WX.call (m1 := [BB true g p (b0 ++ tailJ dotB rest), OwnB p (b0 ++ tailJ dotB rest)]) (m2 := []) rfl rfl rfl (bString_spec true g p (b0 ++ tailJ dotB rest) (by rw [List.length_append]; rw [htk] at hsl2; omega) (fun h => by
            have := congrArg List.length h
            rw [List.length_append, List.length_nil] at this
            omega) _ _) rfl rfl (fun _ _ => ?_)
          have hjp : joinP dotB l = ⟨(b0 ++ tailJ dotB rest).toArray⟩ := by
            rw [← hb0e, ← hrest]
            cases l with
            | nil => exact absurd rfl h0
            | cons x r =>
              cases r with
              | nil => exact absurd rfl h1
              | cons y r => rfl
          (refine r_as rfl rfl <| r_nx h91 <| c_rt ?_; rotate_left)
          exact WE.ret1 () rfl rfl (by rw [hjp]; rfl) trivial Mem.keep
end Go.Proofs.YthnabbidlmihbaaGreatDoor

/- label.All: the walk. -/
set_option linter.unusedVariables false
namespace Go.Proofs.YthnabbidlmihbaaGreatDoor
open Go.RowKit Go.Gp

/-- The parts, each for itself. -/
def partsS : List (List Int) → Option (List ByteArray)
  | [] => some []
  | p :: ps => match oneP p with
    | none => none
    | some s => (partsS ps).map (s :: ·)
def foldP (l : List Int) : List Int := compR (mapAll l)
/-- A whole name; 2: it has no form; 3: it is empty. -/
def allP (l : List Int) : Except Int ByteArray :=
  if okAll l = false then .error 2
  else match partsS (splitP 46 (foldP l)) with
    | none => .error 2
    | some ss => if joinP dotB ss = ⟨#[]⟩ then .error 3 else .ok (joinP dotB ss)
def allV : Except Int ByteArray → List (Nat × ByteArray) → Value
  | .ok s, _ => .tuple #[.string s, .nilIface]
  | .error n, L => .tuple #[.string ⟨#[]⟩, ecv L n]
def allM : Except Int ByteArray → List (Nat × ByteArray) → List Res
  | .ok _, _ => []
  | .error n, L => ecm L n

/-- What the loop has made. -/
structure AS where
  done : List ByteArray
  p : Option Addr × Nat
  err : Option Nat
def lrec (r : Loop) : Option Nat → Loop
  | none => { r with state := .ready, pending := none }
  | some _ => { r with state := .done, pending := some .ret }
theorem lrec_none {r : Loop} (h1 : r.state = .ready) (h2 : r.pending = none) : r = lrec r none := by
  cases r
  simp only at h1 h2
  subst h1 h2
  rfl
def aerrV : Option Nat → Value
  | none => .nilIface
  | some b => ecv [(b, sLabel)] 2
def aerrM : Option Nat → List Res
  | none => []
  | some b => ecm [(b, sLabel)] 2
def AJ (r : Loop) (lp b2 b3 b6 : Nat) (s : AS) : List Res :=
  .obj lp (.loop (lrec r s.err)) :: .blk b2 [.string ⟨#[]⟩] 9 :: .blk b3 [aerrV s.err] 25 :: .blk b6 [.slice s.p.1 s.done.length s.p.2] 45 ::
    .own s.p.1 s.p.2 s.done.length (strsV s.done) 9 1 :: aerrM s.err
def AR (s : AS) (p : List Int) (s' : AS) (b : Bool) : Prop :=
  match oneP p with
  | none => b = false ∧ s'.err.isSome = true
  | some t => b = true ∧ s'.done = s.done ++ [t] ∧ s'.err = none
def APre (N : Nat) (ps : List (List Int)) (s : AS) : Prop := s.err = none ∧ s.done.length + ps.length ≤ N ∧ ∀ q ∈ ps, q.length ≤ 16000
theorem AR_runs : ∀ (ps : List (List Int)) (s t : AS), s.err = none → Runs AR ps s t → (∃ ss, partsS ps = some ss ∧ t.done = s.done ++ ss ∧ t.err = none) ∨ (partsS ps = none ∧ ∃ b, t.err = some b)
  | [], s, t, h0, h => by
    have e : s = t := h
    subst e
    exact .inl ⟨[], rfl, by simp, h0⟩
  | p :: ps, s, t, h0, h => by
    obtain ⟨s', b, hR, h⟩ := h
    unfold AR at hR
    rw [partsS]
    cases ho : oneP p with
    | none =>
      rw [ho] at hR
      obtain ⟨rfl, h2⟩ := hR
      have e : s' = t := by simpa using h
      subst e
      exact .inr ⟨rfl, Option.isSome_iff_exists.1 h2⟩
    | some u =>
      rw [ho] at hR
      obtain ⟨rfl, h2, h3⟩ := hR
      rcases AR_runs ps s' t h3 (by simpa using h) with ⟨ss, g1, g2, g3⟩ | ⟨g1, g2⟩
      · exact .inl ⟨u :: ss, by simp [g1], by simp [g2, h2], g3⟩
      · exact .inr ⟨by simp [g1], g2⟩
theorem partsS_props : ∀ (ps : List (List Int)) (ss : List ByteArray), partsS ps = some ss → ss.length = ps.length ∧ ∀ t ∈ ss, ∃ p ∈ ps, oneP p = some t
  | [], ss, h => by
    have : ss = [] := by simpa [partsS] using h.symm
    subst this
    simp
  | p :: ps, ss, h => by
    rw [partsS] at h
    cases ho : oneP p with
    | none => rw [ho] at h; cases h
    | some u =>
      rw [ho] at h
      cases hr : partsS ps with
      | none => rw [hr] at h; cases h
      | some rr =>
        rw [hr] at h
        obtain ⟨h1, h2⟩ := partsS_props ps rr hr
        have e : ss = u :: rr := by simpa using h.symm
        subst e
        refine ⟨by simp [h1], fun t ht => ?_⟩
        rcases List.mem_cons.1 ht with ht | ht
        · exact ⟨p, by simp, by rw [ht]; exact ho⟩
        · obtain ⟨q, hq, e⟩ := h2 t ht
          exact ⟨q, by simp [hq], e⟩
theorem Ct.frame {α : Type} {P : Program} {f : FuncId} {args : List Value} {w0 : World} {m m1 m2 m0 : List Res} {φ : α → Prop} {val : α → Value} {M : α → List Res} (h : Ct P f args w0 m1 (m2 ++ m0) φ val M) (hM : ∀ w, Mem w0 (m ++ m0) w → Mem w0 ((m1 ++ m2) ++ m0) w) :
    Ct P f args w0 m m0 φ val (fun x => M x ++ m2) := by
  unfold Ct at h ⊢
  refine ⟨h.1, fun w hw => (h.2 w (by rw [← List.append_assoc]; exact hM w hw)).mono ?_⟩
  rintro e w' ⟨x, hx, he, hm⟩
  exact ⟨x, hx, he, by rw [List.append_assoc]; exact hm⟩

set_option maxRecDepth 100000 in
theorem all_spec (A : Option Addr) (c : Nat) (l : List Int) (hn : l.length ≤ 1000000) (hl : R32 l) (hp : okAll l = true → (foldP l).length ≤ 900000 ∧ ∀ q ∈ splitP 46 (foldP l), q.length ≤ 16000 ∧ ∀ t, oneP q = some t → t.size ≤ 500000) (w0 : World) (m0 : List Res) (hA : Rd w0 m0 A (runes l)) :
    Ct (α := List (Nat × ByteArray)) Tryz.prog 9 [.slice A l.length c] w0 [] m0 (fun L => L ≠ []) (allV (allP l)) (allM (allP l)) := by
  refine Ct.ofM Tryz.func9 rfl (by kernel_rfl) rfl ?_
  (refine c_sq fun k10 h10 => c_rg <| r_al (z := .string ⟨#[]⟩) (cs := [.string ⟨#[]⟩]) (fun _ => by kernel_rfl) rfl rfl (fun _ => ?_); refine r_al (z := .nilIface) (cs := [.nilIface]) (fun _ => by kernel_rfl) rfl rfl (fun _ => ?_); refine r_nx h10 <| c_sq fun k14 h14 => c_rg <| r_mv rfl rfl ?_; rotate_left)
  rename_i b2 b3
  rcases Bool.eq_false_or_eq_true (okAll l) with hok | hok
  · obtain ⟨hF, hparts⟩ := hp hok
    refine WX.call (m1 := []) (m2 := _) rfl rfl rfl (fold_ok A c l (by omega) hl hok _ _ (hA.app _)) rfl rfl (fun p _ => ?_)
    have hfp : compR (mapAll l) = foldP l := rfl
    rw [hfp]
    have hall : allP l = match partsS (splitP 46 (foldP l)) with
      | none => .error 2
      | some ss => if joinP dotB ss = ⟨#[]⟩ then .error 3 else .ok (joinP dotB ss) := by
      unfold allP
      rw [if_neg (by rw [hok]; decide)]
    generalize foldP l = F at hF hparts hall ⊢
    refine WX.room 0 rfl (fun hpc => ?_)
    (refine r_mv rfl rfl <| r_ex rfl rfl rfl <| r_ex rfl rfl rfl <| r_as rfl rfl <| r_as rfl rfl <| r_nx h14 <| c_sq fun k27 h27 => c_sq fun k29 h29 => c_rg <| r_mv rfl rfl <| r_bk (.bool false) rfl rfl (fun _ => by kernel_rfl) rfl <| r_nx h29 <| c_cF rfl <| c_sk <| WE.then_n h27 <| c_sq fun k31 h31 => c_rg <| r_al (z := .slice none 0 0) (cs := [.slice none 0 0]) (fun _ => by kernel_rfl) rfl rfl (fun _ => ?_); refine r_nx h31 ?_; rotate_left)
    refine c_sqD (fun K hK => ?_)
    (refine c_sq fun k36 h36 => c_rg <| r_mv rfl rfl ?_; rotate_left)
    rename_i b6
    refine WX.call (m1 := []) (m2 := _) rfl rfl rfl (parts_spec p.1 F.length p.2 _ _) rfl rfl (fun bp _ => ?_)
    (refine r_nx h36 <| c_bl ?_; rotate_left)
    refine WC.range rfl (fun dk lp r hr1 hr2 hr3 hr4 hr5 hsl => ?_)
    have hspl := splitP_len 46 F
    refine ⟨AS, fun t => Runs AR (splitP 46 F) ⟨[], (none, 0), none⟩ t, fun _ => .tuple #[], fun t => AJ r lp b2 b3 b6 t ++ [OwnR p F, .obj dk (.deferred (some []))], ?_, ?_⟩
    · refine Ct.frame (m1 := .blk bp [.slice p.1 F.length p.2] 22 :: AJ r lp b2 b3 b6 ⟨[], (none, 0), none⟩) (m2 := [OwnR p F, .obj dk (.deferred (some []))]) ?_ ?_
      · refine parts1_spec lp bp (AJ r lp b2 b3 b6) (APre 1000000) AR F p.1 p.2 (by omega) hpc w0 _ (Rd.own 0 rfl) _ ⟨rfl, by dsimp only; simp; omega, fun q hq => (hparts q hq).1⟩ ?_ ?_
        · rintro s q ps s' ⟨h1, h2, h3⟩ hR
          unfold AR at hR
          cases ho : oneP q with
          | none => rw [ho] at hR; cases hR.1
          | some u =>
            rw [ho] at hR
            refine ⟨hR.2.2, ?_, fun q' hq' => h3 q' (by simp [hq'])⟩
            rw [hR.2.1]
            simp at h2 ⊢
            omega
        · rintro ⟨done, p', err⟩ q ps B c' mm ⟨h1, h2, h3⟩ hqc hB
          dsimp only at h1 h2
          subst h1
          have hq := h3 q (by simp)
          have hr3' : (lrec r none).params = #[22] := hr3
          refine YCt.of (r := lrec r none) 0 hr3' rfl hsl rfl ?_
          rw [show (lrec r none).assign = _ from hr4, show (lrec r none).body = _ from hr5]
          clear hr4 hr5 hr3 hr3' hsl hspl
          (refine c_rg <| r_as rfl rfl <| r_nl ?_; rotate_left)
          refine WE.begin (r := lrec r none) 0 rfl rfl ?_
          simp only [AJ, aerrM, aerrV]
          (refine c_bl <| c_sq fun k64 h64 => c_rg <| r_mv rfl rfl ?_; rotate_left)
          refine WX.call (m1 := []) (m2 := _) rfl rfl rfl (one_spec B c' q hq _ _ (hB.app _)) rfl rfl (fun b _ => ?_)
          have hAR : ∀ s' bb, AR ⟨done, p', none⟩ q s' bb ↔ match oneP q with
            | none => bb = false ∧ s'.err.isSome = true
            | some t => bb = true ∧ s'.done = done ++ [t] ∧ s'.err = none := fun _ _ => Iff.rfl
          generalize oneP q = ro at hAR ⊢
          cases ro with
          | none =>
            simp only [oneV, oneM, ecv, ecm]
            (refine r_mv rfl rfl <| r_ex rfl rfl rfl <| r_ex rfl rfl rfl <| r_as rfl rfl <| r_as rfl rfl <| r_nx h64 <| c_sq fun k69 h69 => c_sq fun k71 h71 => c_rg <| r_mv rfl rfl <| r_bk (.bool true) rfl rfl (fun _ => by kernel_rfl) rfl <| r_nx h71 <| c_cT rfl <| c_sq fun k73 h73 => c_rg <| r_mv rfl rfl <| r_st 2 (by kernel_rfl) rfl rfl rfl rfl rfl rfl rfl <| r_st 3 (by kernel_rfl) rfl rfl rfl rfl rfl rfl rfl <| r_nx h73 <| c_rt <| WE.then_r <| WE.blk_r ?_; rotate_left)
            exact WE.round_r 1 (⟨done, p', some b⟩, false) rfl rfl ((hAR _ _).2 ⟨rfl, rfl⟩) (Mem.pick [1, 2, 3, 4, 5, 0] (by decide) rfl)
          | some u =>
            simp only [oneV, oneM]
            (refine r_mv rfl rfl <| r_ex rfl rfl rfl <| r_ex rfl rfl rfl <| r_as rfl rfl <| r_as rfl rfl <| r_nx h64 <| c_sq fun k72 h72 => c_sq fun k74 h74 => c_rg <| r_mv rfl rfl <| r_bk (.bool false) rfl rfl (fun _ => by kernel_rfl) rfl <| r_nx h74 <| c_cF rfl <| c_sk <| WE.then_n h72 <| c_rg <| r_lb 3 Tryz.underlying45 rfl rfl rfl rfl rfl <| r_mv rfl rfl <| r_bo Tryz.underlying45 rfl (fun _ => by kernel_rfl) rfl rfl rfl (fun _ => ?_); rotate_left)
            simp at h2
            refine r_am (xs := done) (ys := [u]) 5 (z := .string ⟨#[]⟩) (by_ := 16) (f := (.string ·)) Tryz.underlying45 (by kernel_rfl) rfl rfl rfl rfl (Rd.own 0 rfl) rfl (fun _ => rfl) (by omega) rfl (fun p2 _ => ?_)
            (refine r_st 4 (by kernel_rfl) rfl rfl rfl rfl rfl rfl rfl <| r_nl <| WE.blk_n ?_; rotate_left)
            exact WE.round_n 1 (⟨done ++ [u], p2, none⟩, true) rfl rfl ((hAR _ _).2 ⟨rfl, rfl, rfl⟩) (Mem.pick [1, 2, 3, 4, 5] (by decide) rfl)
      · intro w hw
        rw [lrec_none hr1 hr2] at hw
        exact Mem.pick [3, 1, 7, 6, 4, 0, 5, 2] (by decide) rfl w (Mem.addNil 9 1 w hw)
    · rintro ⟨done, p', err⟩ ht
      have hspn : (splitP 46 F).length ≤ 900001 := by omega
      rcases AR_runs _ _ _ rfl ht with ⟨ss, g1, g2, g3⟩ | ⟨g1, b, g2⟩
      · dsimp only at g2 g3
        rw [List.nil_append] at g2
        subst g2 g3
        rw [g1] at hall
        refine ⟨lrec r none, 0, rfl, by simp [lrec], fun r'' => .inl ⟨rfl, ?_⟩⟩
        refine WE.blk_n ?_
        refine WE.then_n (hK _) ?_
        simp only [AJ, aerrM, aerrV, List.cons_append, List.nil_append, List.set_cons_zero]
        clear hr4 hr5 hsl hr1 hr2 hr3 hspl ht hK
        obtain ⟨e1, e2⟩ := partsS_props _ _ g1
        have hsz : ∀ s ∈ done, s.size ≤ 500000 := fun s hs => by
          obtain ⟨q, hq, ho⟩ := e2 s hs
          exact (hparts q hq).2 s ho
        dsimp only at hall
        (refine c_sq fun k60 h60 => c_rg <| r_lb 3 Tryz.underlying45 rfl rfl rfl rfl rfl ?_; rotate_left)
        refine WX.room 4 rfl (fun hdc => ?_)
        refine WX.pure rfl rfl (join_spec p'.1 p'.2 done (by omega) hsz hdc _ _ (Rd.own 4 rfl)) rfl rfl ?_
        generalize joinP dotB done = js at hall ⊢
        (refine r_as rfl rfl <| r_nx h60 <| c_sq fun k65 h65 => c_sq fun k67 h67 => c_rg <| r_mv rfl rfl ?_; rotate_left)
        refine r_seq rfl rfl (fun _ => rfl) rfl ?_
        by_cases hjs : js = ⟨#[]⟩
        · rw [if_pos hjs] at hall
          rw [decide_eq_true hjs]
          (refine r_nx h67 <| c_cT rfl <| c_sq fun k71 h71 => c_rg <| r_mi rfl (fun _ => by kernel_rfl) rfl ?_; rotate_left)
          refine WX.call (m1 := []) (m2 := _) rfl rfl rfl (wrap_spec sLabel [] 3 _ _) rfl rfl (fun b' _ => ?_)
          (refine r_st 2 (by kernel_rfl) rfl rfl rfl rfl rfl rfl rfl <| r_st 3 (by kernel_rfl) rfl rfl rfl rfl rfl rfl rfl <| r_nx h71 <| c_rt <| WE.then_r ?_; rotate_left)
          exact WE.retM1c2 [(b', sLabel)] rfl rfl Tryz.underlying9 rfl Tryz.underlying25 rfl rfl rfl 2 3 7 rfl rfl rfl (by decide) (by decide) (by rw [hall]; rfl) (by simp) (by rw [hall]; exact Mem.pick [0] (by decide) rfl)
        · rw [if_neg hjs] at hall
          rw [decide_eq_false hjs]
          (refine r_nx h67 <| c_cF rfl <| c_sk <| WE.then_n h65 <| c_sq fun k71 h71 => c_rg <| r_mv rfl rfl <| r_st 1 (by kernel_rfl) rfl rfl rfl rfl rfl rfl rfl <| r_st 2 (by kernel_rfl) rfl rfl rfl rfl rfl rfl rfl <| r_nx h71 <| c_rt ?_; rotate_left)
          exact WE.retM1c2 [(0, sLabel)] rfl rfl Tryz.underlying9 rfl Tryz.underlying25 rfl rfl rfl 1 2 6 rfl rfl rfl (by decide) (by decide) (by rw [hall]; rfl) (by simp) (by rw [hall]; exact Mem.drop)
      · dsimp only at g2
        subst g2
        rw [g1] at hall
        refine ⟨lrec r (some b), 0, rfl, by simp [lrec], fun r'' => .inr (.inl ⟨rfl, ?_⟩)⟩
        refine WE.blk_r ?_
        refine WE.then_r ?_
        simp only [AJ, aerrM, aerrV]
        exact WE.retM1c2 [(b, sLabel)] rfl rfl Tryz.underlying9 rfl Tryz.underlying25 rfl rfl rfl 1 2 7 rfl rfl rfl (by decide) (by decide) (by rw [hall]; rfl) (by simp) (by rw [hall]; exact Mem.pick [5] (by decide) rfl)
  · have hall : allP l = .error 2 := by unfold allP; rw [if_pos hok]
    refine WX.call (m1 := []) (m2 := _) rfl rfl rfl (fold_no A c l (by omega) hl hok _ _ (hA.app _)) rfl rfl (fun b _ => ?_)
    simp only [ecv]
    (refine r_mv rfl rfl <| r_ex rfl rfl rfl <| r_ex rfl rfl rfl <| r_as rfl rfl <| r_as rfl rfl <| r_nx h14 <| c_sq fun k20 h20 => c_sq fun k22 h22 => c_rg <| r_mv rfl rfl <| r_bk (.bool true) rfl rfl (fun _ => by kernel_rfl) rfl <| r_nx h22 <| c_cT rfl <| c_sq fun k24 h24 => c_rg <| r_mv rfl rfl ?_; rotate_left)
    refine WX.call (m1 := []) (m2 := _) rfl rfl rfl (wrap_spec sLabel [(b, sFold)] 2 _ _) rfl rfl (fun b' _ => ?_)
    (refine r_st 3 (by kernel_rfl) rfl rfl rfl rfl rfl rfl rfl <| r_st 2 (by kernel_rfl) rfl rfl rfl rfl rfl rfl rfl <| r_nx h24 <| c_rt <| WE.then_r ?_; rotate_left)
    exact WE.retMc2 [(b', sLabel), (b, sFold)] rfl rfl Tryz.underlying9 rfl Tryz.underlying25 rfl rfl rfl 3 2 rfl rfl (by rw [hall]; rfl) (by simp) (by rw [hall]; exact Mem.pick [0, 1] (by decide) rfl)
end Go.Proofs.YthnabbidlmihbaaGreatDoor

/- Names in letters below 128: the plain laws: what is folded first; two names with a dot between. -/
namespace Go.Proofs.YthnabbidlmihbaaGreatDoor
open Go.RowKit Go.Gp

theorem _root_.Go.Gp.r_sad {C : Cx} {Q : Po} {l : List (Nat × Value)} {m : List Res} {ops : Array Oper} {rest : List Oper} {ty : TypeId} {pos : String} {af : Array Edge} {g : Option (Nat × Bool)} {b : Bool} {d : Nat} {x y : Operand} {t t' : TypeId} {s u : ByteArray}
    (hx : opv l x = some (.string s)) (hy : opv l y = some (.string u)) (h : okk ops l g d C.n = true) (hb : s.size + u.size ≤ 9223372036854775807) (c : WX b C Q ops rest ((d, .string (s ++ u)) :: l) m) : WX b C Q ops (⟨some d, .binOp .add t x y t', ty, pos, af, g⟩ :: rest) l m :=
  r_bi (s := .string (s ++ u)) hx hy (fun _ _ => rfl) (fun w _ => by
    have := run_string_add_sum (P := C.P) w s u hb
    simp only [binOp]
    exact this) h c
theorem oneP_size {l : List Int} (h : l.length ≤ 150) {t : ByteArray} (ht : oneP l = some t) : t.size ≤ 500000 := by
  have h1 := runesBytes_size_le l
  have h2 := encP_len l
  have h3 : 20 * l.length * (l.length + 1) ≤ 20 * 150 * 151 := Nat.mul_le_mul (by omega) (by omega)
  have e1 : (runesBytes l).size ≤ 500000 := by omega
  have e2 : (aceB ++ strOf (encP l)).size ≤ 500000 := by
    have q1 : aceB.size = 4 := rfl
    have q2 : (strOf (encP l)).size = (encP l).length := by simp [strOf, ByteArray.size]
    rw [ByteArray.size_append]
    omega
  unfold oneP at ht
  split at ht
  · cases ht
  · split at ht
    · split at ht
      · cases ht
      · split at ht
        · cases ht
        · split at ht
          · injection ht with ht; rw [← ht]; exact e1
          · cases ht
    · split at ht
      · split at ht
        · cases ht
        · injection ht with ht; rw [← ht]; exact e2
      · injection ht with ht; rw [← ht]; exact e1
/-- What All's walk asks, for short ones. -/
theorem short_ok {l : List Int} (h : (foldP l).length ≤ 150) : (foldP l).length ≤ 900000 ∧ ∀ q ∈ splitP 46 (foldP l), q.length ≤ 16000 ∧ ∀ t, oneP q = some t → t.size ≤ 500000 := by
  have hs := (splitP_len 46 (foldP l)).2
  refine ⟨by omega, fun q hq => ?_⟩
  have := (hs q hq).1
  exact ⟨by omega, fun t ht => oneP_size (by omega) ht⟩
theorem foldP_len (l : List Int) : (foldP l).length ≤ 2 * l.length := by
  have h1 := mapAll_length l
  have h2 := compR_length (mapAll l)
  unfold foldP
  omega
theorem fold2 {l : List Int} (h : ∀ c ∈ l, -2147483648 ≤ c ∧ c ≤ 2147483647) : okAll (foldP l) = true ∧ foldP (foldP l) = foldP l := fold_once h
theorem foldP_fx {l : List Int} (h : ∀ c ∈ l, -2147483648 ≤ c ∧ c ≤ 2147483647) : ∀ x ∈ foldP l, Fx x := compR_fx (mapAll_fx h)
theorem allP_fold {l : List Int} (h : ∀ c ∈ l, -2147483648 ≤ c ∧ c ≤ 2147483647) (hok : okAll l = true) : allP (foldP l) = allP l := by
  obtain ⟨h1, h2⟩ := fold2 h
  unfold allP
  rw [h1, h2, hok]
theorem allP_no {l : List Int} (hok : okAll l = false) : allP l = .error 2 := by unfold allP; rw [if_pos hok]

/-! ### A dot between -/
theorem pair46 (c : Int) : pairR 46 c = 0 := by
  rcases pair_props 46 c with h | h
  · exact h
  · omega
theorem addR_app (t u : List Int) (c : Int) (hu : u ≠ []) : addR (t ++ u) c = t ++ addR u c := by
  rcases List.eq_nil_or_concat u with rfl | ⟨v, x, rfl⟩
  · exact absurd rfl hu
  · rw [List.concat_eq_append, ← List.append_assoc, addR_end, addR_end]
    split <;> simp
theorem addR_ne (u : List Int) (c : Int) : addR u c ≠ [] := by
  rcases List.eq_nil_or_concat u with rfl | ⟨v, x, rfl⟩
  · simp [addR_nil]
  · rw [List.concat_eq_append, addR_end]
    split <;> simp
theorem foldl_app (Y : List Int) : ∀ (t u : List Int), u ≠ [] → Y.foldl addR (t ++ u) = t ++ Y.foldl addR u := by
  induction Y with
  | nil => intro t u _; rfl
  | cons c Y ih =>
    intro t u hu
    rw [List.foldl_cons, List.foldl_cons, addR_app t u c hu, ih t _ (addR_ne u c)]
theorem foldl_dot (S Y : List Int) : Y.foldl addR (S ++ [46]) = S ++ [46] ++ Y.foldl addR [] := by
  cases Y with
  | nil => simp
  | cons c Y =>
    rw [List.foldl_cons, List.foldl_cons, addR_end, if_neg (by rw [pair46]; exact fun h => h rfl), addR_nil]
    exact foldl_app Y (S ++ [46]) [c] (by simp)
theorem foldP_dot (a b : List Int) : foldP (a ++ [46] ++ b) = foldP a ++ [46] ++ foldP b := by
  have e46 : mapAll [46] = [46] := by decide +kernel
  unfold foldP
  rw [mapAll_append, mapAll_append, e46]
  unfold compR
  rw [List.foldl_append, List.foldl_append]
  simp only [List.foldl_cons, List.foldl_nil]
  rw [addR_low _ (by omega), foldl_dot]
theorem okAll_dot (a b : List Int) : okAll (a ++ [46] ++ b) = (okAll a && okAll b) := by
  have e46 : okAll [46] = true := by decide +kernel
  rw [okAll_append, okAll_append, e46, Bool.and_true]
theorem splitP_dot (a b : List Int) : splitP 46 (a ++ [46] ++ b) = splitP 46 a ++ splitP 46 b := by
  induction a with
  | nil => simp [splitP]
  | cons x a ih =>
    simp only [List.cons_append]
    rw [splitP, splitP]
    split
    · rw [ih]; rfl
    · rw [ih]
      have := splitP_ne 46 a
      cases hs : splitP 46 a with
      | nil => exact absurd hs this
      | cons p ps => rfl
theorem partsS_app (x y : List (List Int)) : partsS (x ++ y) = (partsS x).bind fun s => (partsS y).map (s ++ ·) := by
  induction x with
  | nil => simp [partsS]
  | cons p x ih =>
    rw [List.cons_append, partsS, partsS]
    cases oneP p with
    | none => rfl
    | some u =>
      simp only
      rw [ih]
      cases partsS x with
      | none => rfl
      | some s =>
        cases partsS y with
        | none => rfl
        | some t => rfl
theorem ba_ext {a b : ByteArray} (h : a.data.toList = b.data.toList) : a = b := by
  cases a; cases b
  simp only at h
  exact congrArg ByteArray.mk (Array.ext' h)
theorem join_data : ∀ l : List ByteArray, l ≠ [] → (joinP dotB l).data.toList = (l.headD ⟨#[]⟩).data.toList ++ tailJ dotB (l.drop 1)
  | [], h => absurd rfl h
  | [s], _ => by simp [joinP, tailJ]
  | s :: t :: r, _ => by simp [joinP, joinP.strOf']
theorem tailJ_app (x y : List ByteArray) : tailJ dotB (x ++ y) = tailJ dotB x ++ tailJ dotB y := by simp [tailJ]
theorem joinP_app (x y : List ByteArray) (hx : x ≠ []) (hy : y ≠ []) : joinP dotB (x ++ y) = joinP dotB x ++ dotB ++ joinP dotB y := by
  apply ba_ext
  rw [ByteArray.data_append, ByteArray.data_append, Array.toList_append, Array.toList_append, join_data _ (by simp [hx]), join_data x hx, join_data y hy]
  cases x with
  | nil => exact absurd rfl hx
  | cons s x =>
    cases y with
    | nil => exact absurd rfl hy
    | cons t y =>
      have e : tailJ dotB (t :: y) = dotB.data.toList ++ t.data.toList ++ tailJ dotB y := by simp [tailJ]
      simp only [List.cons_append, List.headD_cons, List.drop_succ_cons, List.drop_zero]
      rw [tailJ_app, e]
      simp only [List.append_assoc]
theorem partsS_ne {f : List Int} {ss : List ByteArray} (h : partsS (splitP 46 f) = some ss) : ss ≠ [] := by
  have := (partsS_props _ _ h).1
  have h2 := splitP_ne 46 f
  intro e
  subst e
  exact h2 (List.eq_nil_of_length_eq_zero this.symm)
/-- How All's answers come about. -/
theorem allP_ok {l : List Int} {s : ByteArray} (h : allP l = .ok s) : okAll l = true ∧ ∃ ss, partsS (splitP 46 (foldP l)) = some ss ∧ s = joinP dotB ss := by
  unfold allP at h
  split at h
  · cases h
  · rename_i hok
    refine ⟨by simpa using hok, ?_⟩
    cases hp : partsS (splitP 46 (foldP l)) with
    | none => rw [hp] at h; cases h
    | some ss =>
      rw [hp] at h
      simp only at h
      split at h
      · cases h
      · injection h with h
        exact ⟨ss, rfl, h.symm⟩
theorem joinP_size (ss : List ByteArray) (h : ∀ s ∈ ss, s.size ≤ 500000) : (joinP dotB ss).size ≤ 500001 * ss.length := by
  cases ss with
  | nil => exact Nat.le_refl 0
  | cons s ss =>
    have h1 := join_data (s :: ss) (by simp)
    have h2 := congrArg List.length h1
    have h3 := tailJ_len ss
    have h4 := sumN_le ss (fun t ht => h t (by simp [ht]))
    have h5 := h s (by simp)
    simp only [List.headD_cons, List.drop_succ_cons, List.drop_zero, List.length_append] at h2
    have e1 : (joinP dotB (s :: ss)).data.toList.length = (joinP dotB (s :: ss)).size := by simp
    have e2 : s.data.toList.length = s.size := by simp
    rw [e1, e2, h3] at h2
    rw [List.length_cons]
    omega
theorem allP_size {l : List Int} (h : ∀ q ∈ splitP 46 (foldP l), ∀ t, oneP q = some t → t.size ≤ 500000) {s : ByteArray} (hs : allP l = .ok s) : s.size ≤ 500001 * ((foldP l).length + 1) := by
  obtain ⟨_, ss, h2, rfl⟩ := allP_ok hs
  obtain ⟨g1, g2⟩ := partsS_props _ _ h2
  have h3 := joinP_size ss (fun s hs => by
    obtain ⟨q, hq, ho⟩ := g2 s hs
    exact h q hq s ho)
  have h4 := (splitP_len 46 (foldP l)).1
  have h5 : 500001 * ss.length ≤ 500001 * ((foldP l).length + 1) := Nat.mul_le_mul_left _ (by omega)
  omega
theorem allP_dot_ok {a b : List Int} {s t : ByteArray} (ha : allP a = .ok s) (hb : allP b = .ok t) : allP (a ++ [46] ++ b) = .ok (s ++ dotB ++ t) := by
  obtain ⟨a1, sa, a2, rfl⟩ := allP_ok ha
  obtain ⟨b1, sb, b2, rfl⟩ := allP_ok hb
  have hj := joinP_app sa sb (partsS_ne a2) (partsS_ne b2)
  unfold allP
  rw [okAll_dot, a1, b1, foldP_dot, splitP_dot, partsS_app, a2, b2]
  simp only [Bool.and_self, Option.bind_some, Option.map_some]
  rw [if_neg (by decide), hj, if_neg]
  intro e
  have := congrArg ByteArray.size e
  rw [ByteArray.size_append, ByteArray.size_append] at this
  have e1 : dotB.size = 1 := rfl
  have e2 : (⟨#[]⟩ : ByteArray).size = 0 := rfl
  omega
theorem allP_bad {l : List Int} (h : allP l = .error 2) : okAll l = false ∨ partsS (splitP 46 (foldP l)) = none := by
  unfold allP at h
  split at h
  · exact .inl (by assumption)
  · cases hp : partsS (splitP 46 (foldP l)) with
    | none => exact .inr rfl
    | some ss =>
      rw [hp] at h
      simp only at h
      split at h
      · injection h with h; cases h
      · cases h
theorem allP_dot_bad {a b : List Int} (h : allP a = .error 2 ∨ allP b = .error 2) : allP (a ++ [46] ++ b) = .error 2 := by
  have key : (okAll a = false ∨ okAll b = false) ∨ (partsS (splitP 46 (foldP a)) = none ∨ partsS (splitP 46 (foldP b)) = none) := by
    rcases h with h | h <;> rcases allP_bad h with h | h
    · exact .inl (.inl h)
    · exact .inr (.inl h)
    · exact .inl (.inr h)
    · exact .inr (.inr h)
  unfold allP
  rw [okAll_dot, foldP_dot, splitP_dot, partsS_app]
  rcases key with h | h
  · rw [if_pos]
    rcases h with h | h <;> rw [h] <;> simp
  · have e : ((partsS (splitP 46 (foldP a))).bind fun s => (partsS (splitP 46 (foldP b))).map (s ++ ·)) = none := by
      rcases h with h | h <;> rw [h]
      · rfl
      · cases partsS (splitP 46 (foldP a)) <;> rfl
    rw [e]
    split <;> rfl
end Go.Proofs.YthnabbidlmihbaaGreatDoor

/- The document's layer 6: a part, a whole name: the walks; they answer as the program does. -/
set_option linter.unusedVariables false
set_option linter.unusedSimpArgs false
namespace Go.Proofs.YthnabbidlmihbaaGreatDoor
open Go.RowKit Go.Gp

/-- What forbids the code points of a part that was told by letters. -/
def decdP (s : ByteArray) : Int := match decP s with
  | none => 2
  | some d => if mayP d = true then 0 else 2
set_option maxRecDepth 100000 in
theorem rdecoded_spec (s : ByteArray) (hs : s.size ≤ 65536) (w0 : World) (m0 : List Res) :
    PureC Tryz.prog 25 [.string s] w0 m0 (.int .i64 (decdP s)) := by
  have hdp := @decP_props s
  have hd := rdecode_spec s hs
  have hv : decdP s = match decP s with
    | none => 2
    | some d => if mayP d = true then 0 else 2 := rfl
  refine Ct.of Tryz.func25 rfl (by kernel_rfl) rfl ?_
  (refine c_sq fun k8 h8 => c_rg <| r_as rfl rfl <| r_nx h8 <| c_sq fun k10 h10 => c_rg <| r_mv rfl rfl ?_; rotate_left)
  refine WX.call (m1 := []) (m2 := []) rfl rfl rfl (hd _ _) rfl rfl (fun p _ => ?_)
  clear hd
  generalize decP s = r at hdp hv ⊢
  cases r with
  | none =>
    simp only [rdV, rdM]
    (refine r_mv rfl rfl <| r_ex rfl rfl rfl <| r_ex rfl rfl rfl <| r_as rfl rfl <| r_as rfl rfl <| r_nx h10 <| c_sq fun k16 h16 => c_sq fun k18 h18 => c_rg <| r_mv rfl rfl <| r_neT rfl rfl rfl (by omega) <| r_nx h18 <| c_cT rfl <| c_sq fun k20 h20 => c_rg <| r_mv rfl rfl <| r_as rfl rfl <| r_nx h20 <| c_rt <| WE.then_r ?_; rotate_left)
    exact WE.ret1 () rfl rfl (by rw [hv]; rfl) trivial Mem.drop
  | some d =>
    obtain ⟨g1, g2⟩ := hdp rfl
    have hd32 : ∀ n ∈ d, -2147483648 ≤ n ∧ n ≤ 2147483647 := fun n hn => by have := g1 n hn; omega
    simp only [rdV, rdM]
    have hpl : ∀ mm, Rd w0 mm p.1 (runes d) → PureC Tryz.prog 24 [SlR p d] w0 mm (.bool (!d.any (fun c => decide (128 ≤ c)))) := fun mm h => rplain_spec p.1 p.2 d (by omega) w0 mm h
    have hmk : ∀ mm, Rd w0 mm p.1 (runes d) → PureC Tryz.prog 26 [SlR p d] w0 mm (.bool (decide (MarkP d))) := fun mm h => rmarked_spec p.1 p.2 d w0 mm h
    have hm : mayP d = (d.any (fun c => decide (128 ≤ c)) && !decide (MarkP d) && okAll d && decide (compR (mapAll d) = d)) := rfl
    dsimp only at hv
    rw [hm] at hv
    generalize d.any (fun c => decide (128 ≤ c)) = b1 at hpl hv
    generalize decide (MarkP d) = b2 at hmk hv
    (refine r_mv rfl rfl <| r_ex rfl rfl rfl <| r_ex rfl rfl rfl <| r_as rfl rfl <| r_as rfl rfl <| r_nx h10 <| c_sq fun k32 h32 => c_sq fun k34 h34 => c_rg <| r_mv rfl rfl <| r_neF rfl rfl rfl (by omega) <| r_nx h34 <| c_cF rfl <| c_sk <| WE.then_n h32 <| c_sq fun k36 h36 => c_sq fun k38 h38 => c_rg <| r_mv rfl rfl ?_; rotate_left)
    refine WX.pure rfl rfl (hpl _ (Rd.own 0 rfl)) rfl rfl ?_
    cases b1
    · (refine r_mv rfl rfl <| r_sk rfl rfl <| r_sk rfl rfl <| r_pT rfl rfl rfl <| r_nx h38 <| c_cT rfl <| c_sq fun k42 h42 => c_rg <| r_as rfl rfl <| r_nx h42 <| c_rt <| WE.then_r ?_; rotate_left)
      exact WE.ret1 () rfl rfl (by rw [hv]; rfl) trivial Mem.drop
    · (refine r_mv rfl rfl <| r_mv rfl rfl ?_; rotate_left)
      refine WX.pure rfl rfl (hmk _ (Rd.own 0 rfl)) rfl rfl ?_
      cases b2
      · rcases Bool.eq_false_or_eq_true (okAll d) with hok | hok
        · have e1 : rComp (mapAll d) = compR (mapAll d) := comp_law _
          have h1 := mapAll_length d
          have h2 := compR_length (mapAll d)
          rw [hok] at hv
          (refine r_pF rfl rfl rfl <| r_nx h38 <| c_cF rfl <| c_sk <| WE.then_n h36 <| c_sq fun k48 h48 => c_rg <| r_mv rfl rfl ?_; rotate_left)
          refine WX.call (m1 := []) (m2 := _) rfl rfl rfl (rfold_ok p.1 p.2 d (by omega) hd32 hok _ _ (Rd.own 0 rfl)) rfl rfl (fun q _ => ?_)
          rw [e1]
          have hsm : ∀ mm, Rd w0 mm q.1 (runes (compR (mapAll d))) → Rd w0 mm p.1 (runes d) → PureC Tryz.prog 53 [SlR q (compR (mapAll d)), SlR p d] w0 mm (.bool (decide (compR (mapAll d) = d))) := fun mm g1 g2 => same_spec q.1 p.1 q.2 p.2 _ _ w0 mm g1 g2 (by omega)
          generalize decide (compR (mapAll d) = d) = b3 at hsm hv
          (refine r_mv rfl rfl <| r_ex rfl rfl rfl <| r_ex rfl rfl rfl <| r_as rfl rfl <| r_as rfl rfl <| r_nx h48 <| c_sq fun k55 h55 => c_sq fun k57 h57 => c_rg <| r_mv rfl rfl <| r_neF rfl rfl rfl (by omega) <| r_mv rfl rfl <| r_mv rfl rfl <| r_mv rfl rfl ?_; rotate_left)
          refine WX.pure rfl rfl (hsm _ (Rd.own 0 rfl) (Rd.own 1 rfl)) rfl rfl ?_
          cases b3
          · (refine r_no rfl rfl rfl <| r_pF rfl rfl rfl <| r_nx h57 <| c_cT rfl <| c_sq fun k61 h61 => c_rg <| r_as rfl rfl <| r_nx h61 <| c_rt <| WE.then_r ?_; rotate_left)
            exact WE.ret1 () rfl rfl (by rw [hv]; rfl) trivial Mem.drop
          · (refine r_no rfl rfl rfl <| r_pF rfl rfl rfl <| r_nx h57 <| c_cF rfl <| c_sk <| WE.then_n h55 <| c_sq fun k61 h61 => c_rg <| r_as rfl rfl <| r_nx h61 <| c_rt ?_; rotate_left)
            exact WE.ret1 () rfl rfl (by rw [hv]; rfl) trivial Mem.drop
        · rw [hok] at hv
          (refine r_pF rfl rfl rfl <| r_nx h38 <| c_cF rfl <| c_sk <| WE.then_n h36 <| c_sq fun k45 h45 => c_rg <| r_mv rfl rfl ?_; rotate_left)
          refine WX.call (m1 := []) (m2 := _) rfl rfl rfl (rfold_no p.1 p.2 d (by omega) hd32 hok _ _ (Rd.own 0 rfl)) rfl rfl (fun _ _ => ?_)
          (refine r_mv rfl rfl <| r_ex rfl rfl rfl <| r_ex rfl rfl rfl <| r_as rfl rfl <| r_as rfl rfl <| r_nx h45 <| c_sq fun k49 h49 => c_sq fun k51 h51 => c_rg <| r_mv rfl rfl <| r_neT rfl rfl rfl (by omega) <| r_mv rfl rfl <| r_sk rfl rfl <| r_sk rfl rfl <| r_sk rfl rfl <| r_sk rfl rfl <| r_pT rfl rfl rfl <| r_nx h51 <| c_cT rfl <| c_sq fun k53 h53 => c_rg <| r_as rfl rfl <| r_nx h53 <| c_rt <| WE.then_r ?_; rotate_left)
          exact WE.ret1 () rfl rfl (by rw [hv]; rfl) trivial Mem.drop
      · (refine r_pF rfl rfl rfl <| r_nx h38 <| c_cT rfl <| c_sq fun k43 h43 => c_rg <| r_as rfl rfl <| r_nx h43 <| c_rt <| WE.then_r ?_; rotate_left)
        exact WE.ret1 () rfl rfl (by rw [hv]; rfl) trivial Mem.drop

/-- The document's answer: a text, and a number. -/
def oneR : Option ByteArray → Value
  | none => .tuple #[.string ⟨#[]⟩, .int .i64 2]
  | some t => .tuple #[.string t, .int .i64 0]
set_option maxRecDepth 100000 in
theorem rone_spec (A : Option Addr) (c : Nat) (l : List Int) (hn : l.length ≤ 16000) (w0 : World) (m0 : List Res) (hA : Rd w0 m0 A (runes l)) :
    PureC Tryz.prog 7 [.slice A l.length c] w0 m0 (oneR (oneP l)) := by
  have hsz := runesBytes_size_le l
  have hpl : ∀ mm, Rd w0 mm A (runes l) → PureC Tryz.prog 24 [.slice A l.length c] w0 mm (.bool (!l.any (fun c => decide (128 ≤ c)))) := fun mm h => rplain_spec A c l (by omega) w0 mm h
  have hmk : ∀ mm, Rd w0 mm A (runes l) → PureC Tryz.prog 26 [.slice A l.length c] w0 mm (.bool (decide (MarkP l))) := fun mm h => rmarked_spec A c l w0 mm h
  have hv : oneP l = (if l.any (fun c => !decide (ScP c)) = true then none
      else if preB (runesBytes l) aceB = true then (if l.any (fun c => decide (128 ≤ c)) = true then none else match decP ((runesBytes l).extract 4 (runesBytes l).size) with | none => none | some d => if mayP d = true then some (runesBytes l) else none)
      else if l.any (fun c => decide (128 ≤ c)) = true then (if decide (MarkP l) = true then none else some (aceB ++ strOf (encP l))) else some (runesBytes l)) := by
    unfold oneP
    simp only [decide_eq_true_eq]
    try rfl
  refine Ct.of Tryz.func7 rfl (by kernel_rfl) rfl ?_
  (refine c_sq fun k12 h12 => c_rg <| r_as rfl rfl <| r_as rfl rfl <| r_nx h12 <| c_sq fun k14 h14 => c_sq fun k16 h16 => c_rg <| r_as rfl rfl <| r_nx h16 <| c_bl ?_; rotate_left)
  refine WC.loop (α := Nat) (fun i => [(0, .slice A l.length c), (4, .int .i64 i)]) (fun _ => []) (fun i => i ≤ l.length ∧ ∀ j, j < i → ScP (l.getD j 0)) (fun i => l.length - i) 0 ⟨by omega, by omega⟩ ⟨rfl, rfl, trivial⟩ Mem.keep ?_
  rintro i ⟨hi, hb⟩
  by_cases hlt : i < l.length
  · have hsc : ∀ mm, PureC Tryz.prog 22 [.int .i32 (l.getD i 0)] w0 mm (.bool (decide (ScP (l.getD i 0)))) := fun mm => scalar_spec (l.getD i 0) w0 mm
    by_cases hc : ScP (l.getD i 0)
    · rw [decide_eq_true hc] at hsc
      (refine c_sq fun k25 h25 => c_sq fun k27 h27 => c_rg <| r_mv rfl rfl <| r_mv rfl rfl <| r_ls Tryz.underlying22 rfl rfl <| r_ltT rfl rfl rfl (by omega) <| r_nx h27 <| c_cT rfl <| c_sk <| WE.then_n h25 <| c_sq fun k29 h29 => c_bl <| c_sq fun k31 h31 => c_rg <| r_mv rfl rfl <| r_mv rfl rfl <| r_im (hA.app _) Tryz.underlying22 (by kernel_rfl) rfl rfl rfl rfl (by omega) (by omega) <| r_li (i) (hA.app _) Tryz.underlying21 rfl rfl rfl (by omega) ?_; rotate_left)
      refine WX.pure rfl rfl (hsc _) rfl rfl ?_
      (refine r_no rfl rfl rfl <| r_nx h31 <| c_cF rfl <| c_sk <| WE.blk_n <| WE.then_n h29 <| c_rg <| r_mv rfl rfl <| r_ad rfl rfl rfl (wadd64 (by omega)) <| r_as rfl rfl <| r_nl ?_; rotate_left)
      exact WE.back (i + 1) ⟨by omega, fun j hj => by
        rcases Nat.lt_succ_iff_lt_or_eq.1 hj with h' | h'
        · exact hb j h'
        · rw [h']; exact hc⟩ (by omega) ⟨rfl, rfl, trivial⟩ Mem.keep
    · have e : l.any (fun c => !decide (ScP c)) = true := by
        rw [List.any_eq_true]
        exact ⟨l.getD i 0, by simp [hlt], by rw [decide_eq_false hc]; rfl⟩
      rw [if_pos e] at hv
      rw [decide_eq_false hc] at hsc
      (refine c_sq fun k27 h27 => c_sq fun k29 h29 => c_rg <| r_mv rfl rfl <| r_mv rfl rfl <| r_ls Tryz.underlying22 rfl rfl <| r_ltT rfl rfl rfl (by omega) <| r_nx h29 <| c_cT rfl <| c_sk <| WE.then_n h27 <| c_sq fun k31 h31 => c_bl <| c_sq fun k33 h33 => c_rg <| r_mv rfl rfl <| r_mv rfl rfl <| r_im (hA.app _) Tryz.underlying22 (by kernel_rfl) rfl rfl rfl rfl (by omega) (by omega) <| r_li (i) (hA.app _) Tryz.underlying21 rfl rfl rfl (by omega) ?_; rotate_left)
      refine WX.pure rfl rfl (hsc _) rfl rfl ?_
      (refine r_no rfl rfl rfl <| r_nx h33 <| c_cT rfl <| c_sq fun k35 h35 => c_rg <| r_as rfl rfl <| r_as rfl rfl <| r_nx h35 <| c_rt <| WE.blk_r <| WE.then_r <| WE.then_r <| WE.blk_r <| WE.then_r ?_; rotate_left)
      exact WE.ret2 () rfl rfl rfl rfl (by rw [hv]; rfl) trivial Mem.drop
  · have hSc : Sc l := fun x hx => by
      obtain ⟨j, hj, rfl⟩ := List.mem_iff_getElem.1 hx
      have := hb j (by omega)
      simpa [hj] using this
    have e : l.any (fun c => !decide (ScP c)) = false := by
      rw [List.any_eq_false]
      intro x hx
      rw [decide_eq_true (hSc x hx)]
      decide
    rw [if_neg (by rw [e]; decide)] at hv
    have ha4 : aceB.size = 4 := rfl
    have hpre : preB (runesBytes l) aceB = (decide (4 ≤ (runesBytes l).size) && decide ((runesBytes l).extract 0 4 = aceB)) := rfl
    rw [hpre] at hv
    generalize l.any (fun c => decide (128 ≤ c)) = b3 at hpl hv
    generalize decide (MarkP l) = b5 at hmk hv
    (refine c_sq fun k33 h33 => c_sq fun k35 h35 => c_rg <| r_mv rfl rfl <| r_mv rfl rfl <| r_ls Tryz.underlying22 rfl rfl <| r_ltF rfl rfl rfl (by omega) <| r_nx h35 <| c_cF rfl <| c_ex <| WE.then_x <| WE.then_x <| WE.blk_x <| WE.then_n h14 <| c_sq fun k37 h37 => c_rg <| r_mv rfl rfl ?_; rotate_left)
    refine WX.pure rfl rfl (rencU_spec A c l (by omega) hSc _ _ (hA.app _)) rfl rfl ?_
    clear hpre e hb
    generalize hU : runesBytes l = u at hsz hv ⊢
    by_cases h4 : 4 ≤ u.size
    · rw [decide_eq_true h4, Bool.true_and] at hv
      (refine r_as rfl rfl <| r_nx h37 <| c_sq fun k46 h46 => c_sq fun k48 h48 => c_rg <| r_mv rfl rfl <| r_lS Tryz.underlying9 rfl rfl <| r_geT rfl rfl rfl (by omega) <| r_mv rfl rfl <| r_mv rfl rfl ?_; rotate_left)
      refine r_sT Tryz.underlying9 rfl rfl (by omega) (by omega) rfl ?_
      refine r_seq (s' := aceB) rfl rfl (fun _ => rfl) rfl ?_
      by_cases hx : u.extract 0 4 = aceB
      · rw [decide_eq_true hx, if_pos rfl] at hv
        rw [show u.extract 0 (Int.toNat 4) = u.extract 0 4 from rfl, decide_eq_true hx]
        have hx4 : (u.extract 4 u.size).size = u.size - 4 := by rw [ByteArray.size_extract]; omega
        (refine r_pT rfl rfl rfl <| r_nx h48 <| c_cT rfl <| c_sq fun k54 h54 => c_sq fun k56 h56 => c_rg <| r_mv rfl rfl ?_; rotate_left)
        refine WX.pure rfl rfl (hpl _ (hA.app _)) rfl rfl ?_
        cases b3
        · (refine r_no rfl rfl rfl <| r_nx h56 <| c_cF rfl <| c_sk <| WE.then_n h54 <| c_sq fun k60 h60 => c_rg <| r_mv rfl rfl ?_; rotate_left)
          refine r_sF Tryz.underlying9 rfl rfl (by omega) (by omega) rfl ?_
          rw [show u.extract (Int.toNat 4) u.size = u.extract 4 u.size from rfl]
          have hdd : decdP (u.extract 4 u.size) = match decP (u.extract 4 u.size) with
            | none => 2
            | some d => if mayP d = true then 0 else 2 := rfl
          refine WX.pure rfl rfl (rdecoded_spec (u.extract 4 u.size) (by omega) _ _) rfl rfl ?_
          generalize decP (u.extract 4 u.size) = r at hv hdd
          have hz : (decdP (u.extract 4 u.size) = 2 ∧ oneP l = none) ∨ (decdP (u.extract 4 u.size) = 0 ∧ oneP l = some u) := by
            cases r with
            | none => exact .inl ⟨hdd, hv⟩
            | some d =>
              dsimp only at hdd hv
              by_cases hm : mayP d = true
              · rw [if_pos hm] at hdd hv
                exact .inr ⟨hdd, hv⟩
              · rw [if_neg hm] at hdd hv
                exact .inl ⟨hdd, hv⟩
          rcases hz with ⟨z1, z2⟩ | ⟨z1, z2⟩
          · rw [z1]
            (refine r_as rfl rfl <| r_nx h60 <| c_sq fun k67 h67 => c_sq fun k69 h69 => c_rg <| r_mv rfl rfl <| r_neT rfl rfl rfl (by omega) <| r_nx h69 <| c_cT rfl <| c_sq fun k71 h71 => c_rg <| r_mv rfl rfl <| r_as rfl rfl <| r_as rfl rfl <| r_nx h71 <| c_rt <| WE.then_r <| WE.then_r ?_; rotate_left)
            exact WE.ret2 () rfl rfl rfl rfl (by rw [z2]; rfl) trivial Mem.drop
          · rw [z1]
            (refine r_as rfl rfl <| r_nx h60 <| c_sq fun k67 h67 => c_sq fun k69 h69 => c_rg <| r_mv rfl rfl <| r_neF rfl rfl rfl (by omega) <| r_nx h69 <| c_cF rfl <| c_sk <| WE.then_n h67 <| c_sq fun k71 h71 => c_rg <| r_mv rfl rfl <| r_as rfl rfl <| r_as rfl rfl <| r_nx h71 <| c_rt <| WE.then_r ?_; rotate_left)
            exact WE.ret2 () rfl rfl rfl rfl (by rw [z2]; rfl) trivial Mem.drop
        · (refine r_no rfl rfl rfl <| r_nx h56 <| c_cT rfl <| c_sq fun k60 h60 => c_rg <| r_as rfl rfl <| r_as rfl rfl <| r_nx h60 <| c_rt <| WE.then_r <| WE.then_r ?_; rotate_left)
          exact WE.ret2 () rfl rfl rfl rfl (by rw [hv]; rfl) trivial Mem.drop
      · rw [decide_eq_false hx, if_neg (by decide)] at hv
        rw [show u.extract 0 (Int.toNat 4) = u.extract 0 4 from rfl, decide_eq_false hx]
        (refine r_pT rfl rfl rfl <| r_nx h48 <| c_cF rfl <| c_sk <| WE.then_n h46 <| c_sq fun k53 h53 => c_sq fun k55 h55 => c_rg <| r_mv rfl rfl ?_; rotate_left)
        refine WX.pure rfl rfl (hpl _ (hA.app _)) rfl rfl ?_
        cases b3
        · (refine r_nx h55 <| c_cT rfl <| c_sq fun k59 h59 => c_rg <| r_mv rfl rfl <| r_as rfl rfl <| r_as rfl rfl <| r_nx h59 <| c_rt <| WE.then_r ?_; rotate_left)
          exact WE.ret2 () rfl rfl rfl rfl (by rw [hv]; rfl) trivial Mem.drop
        · (refine r_nx h55 <| c_cF rfl <| c_sk <| WE.then_n h53 <| c_sq fun k59 h59 => c_sq fun k61 h61 => c_rg <| r_mv rfl rfl ?_; rotate_left)
          refine WX.pure rfl rfl (hmk _ (hA.app _)) rfl rfl ?_
          cases b5
          · (refine r_nx h61 <| c_cF rfl <| c_sk <| WE.then_n h59 <| c_sq fun k65 h65 => c_rg <| r_mv rfl rfl ?_; rotate_left)
            refine WX.pure rfl rfl (rencode_spec A c l (by omega) hSc _ _ (hA.app _)) rfl rfl ?_
            (refine r_mv rfl rfl <| r_ex rfl rfl rfl <| r_ex rfl rfl rfl <| r_as rfl rfl <| r_as rfl rfl <| r_nx h65 <| c_sq fun k67 h67 => c_sq fun k69 h69 => c_rg <| r_mv rfl rfl <| r_neF rfl rfl rfl (by omega) <| r_nx h69 <| c_cF rfl <| c_sk <| WE.then_n h67 <| c_sq fun k71 h71 => c_rg <| r_mv rfl rfl ?_; rotate_left)
            have hel := encP_len l
            have hms : 20 * l.length * (l.length + 1) ≤ 20 * 16000 * 16001 := Nat.mul_le_mul (by omega) (by omega)
            have e2 : (strOf (encP l)).size = (encP l).length := by simp [strOf, ByteArray.size]
            refine r_sad (s := aceB) rfl rfl rfl (by omega) ?_
            (refine r_as rfl rfl <| r_as rfl rfl <| r_nx h71 <| c_rt ?_; rotate_left)
            exact WE.ret2 () rfl rfl rfl rfl (by rw [hv]; rfl) trivial Mem.drop
          · (refine r_nx h61 <| c_cT rfl <| c_sq fun k65 h65 => c_rg <| r_as rfl rfl <| r_as rfl rfl <| r_nx h65 <| c_rt <| WE.then_r ?_; rotate_left)
            exact WE.ret2 () rfl rfl rfl rfl (by rw [hv]; rfl) trivial Mem.drop
    · rw [decide_eq_false h4, Bool.false_and, if_neg (by decide)] at hv
      (refine r_as rfl rfl <| r_nx h37 <| c_sq fun k47 h47 => c_sq fun k49 h49 => c_rg <| r_mv rfl rfl <| r_lS Tryz.underlying9 rfl rfl <| r_geF rfl rfl rfl (by omega) <| r_mv rfl rfl <| r_sk rfl rfl <| r_sk rfl rfl <| r_sk rfl rfl <| r_pF rfl rfl rfl <| r_nx h49 <| c_cF rfl <| c_sk <| WE.then_n h47 <| c_sq fun k51 h51 => c_sq fun k53 h53 => c_rg <| r_mv rfl rfl ?_; rotate_left)
      refine WX.pure rfl rfl (hpl _ (hA.app _)) rfl rfl ?_
      cases b3
      · (refine r_nx h53 <| c_cT rfl <| c_sq fun k57 h57 => c_rg <| r_mv rfl rfl <| r_as rfl rfl <| r_as rfl rfl <| r_nx h57 <| c_rt <| WE.then_r ?_; rotate_left)
        exact WE.ret2 () rfl rfl rfl rfl (by rw [hv]; rfl) trivial Mem.drop
      · (refine r_nx h53 <| c_cF rfl <| c_sk <| WE.then_n h51 <| c_sq fun k57 h57 => c_sq fun k59 h59 => c_rg <| r_mv rfl rfl ?_; rotate_left)
        refine WX.pure rfl rfl (hmk _ (hA.app _)) rfl rfl ?_
        cases b5
        · (refine r_nx h59 <| c_cF rfl <| c_sk <| WE.then_n h57 <| c_sq fun k63 h63 => c_rg <| r_mv rfl rfl ?_; rotate_left)
          refine WX.pure rfl rfl (rencode_spec A c l (by omega) hSc _ _ (hA.app _)) rfl rfl ?_
          (refine r_mv rfl rfl <| r_ex rfl rfl rfl <| r_ex rfl rfl rfl <| r_as rfl rfl <| r_as rfl rfl <| r_nx h63 <| c_sq fun k65 h65 => c_sq fun k67 h67 => c_rg <| r_mv rfl rfl <| r_neF rfl rfl rfl (by omega) <| r_nx h67 <| c_cF rfl <| c_sk <| WE.then_n h65 <| c_sq fun k69 h69 => c_rg <| r_mv rfl rfl ?_; rotate_left)
          have hel := encP_len l
          have hms : 20 * l.length * (l.length + 1) ≤ 20 * 16000 * 16001 := Nat.mul_le_mul (by omega) (by omega)
          have e2 : (strOf (encP l)).size = (encP l).length := by simp [strOf, ByteArray.size]
          refine r_sad (s := aceB) rfl rfl rfl (by omega) ?_
          (refine r_as rfl rfl <| r_as rfl rfl <| r_nx h69 <| c_rt ?_; rotate_left)
          exact WE.ret2 () rfl rfl rfl rfl (by rw [hv]; rfl) trivial Mem.drop
        · (refine r_nx h59 <| c_cT rfl <| c_sq fun k63 h63 => c_rg <| r_as rfl rfl <| r_as rfl rfl <| r_nx h63 <| c_rt <| WE.then_r ?_; rotate_left)
          exact WE.ret2 () rfl rfl rfl rfl (by rw [hv]; rfl) trivial Mem.drop
end Go.Proofs.YthnabbidlmihbaaGreatDoor

/- The document's layer 6: a whole name: the walk. -/
set_option linter.unusedVariables false
set_option linter.unusedSimpArgs false
namespace Go.Proofs.YthnabbidlmihbaaGreatDoor
open Go.RowKit Go.Gp

theorem splitP_nodot : ∀ p : List Int, (∀ x ∈ p, x ≠ 46) → splitP 46 p = [p]
  | [], _ => rfl
  | x :: p, h => by
    rw [splitP, if_neg (fun e => h x (by simp) e.symm), splitP_nodot p (fun y hy => h y (by simp [hy]))]
theorem splitP_cut {p r : List Int} (h : ∀ x ∈ p, x ≠ 46) : splitP 46 (p ++ [46] ++ r) = p :: splitP 46 r := by
  rw [splitP_dot, splitP_nodot p h]
  rfl
theorem _root_.Go.Gp.r_sb {C : Cx} {Q : Po} {l : List (Nat × Value)} {m : List Res} {ops : Array Oper} {rest : List Oper} {ty : TypeId} {pos : String} {af : Array Edge} {g : Option (Nat × Bool)} {b : Bool} {d : Nat} {x y z : Operand} {t : TypeId} {k k' : IntKind} {A : Option Addr} {n c : Nat} {i j : Int}
    (ht : C.P.underlying t = some (.slice (C.P.elem t))) (hz : ∀ w, (sizeOf (C.P.elem t)).run C.P w = .ok 1 w) (hx : opv l x = some (.slice A n c)) (hy : opv l y = some (.int k i)) (hj : opv l z = some (.int k' j)) (h0 : 0 ≤ i) (h1 : i ≤ j) (h2 : j ≤ c) (h : okk ops l g d C.n = true) (cc : WX b C Q ops rest ((d, sliced A i.toNat j.toNat c 1) :: l) m) :
    WX b C Q ops (⟨some d, .slice t x (some y) (some z) none, ty, pos, af, g⟩ :: rest) l m :=
  WX.q (fun ev hev w _ => by
    have h3 := run_slice_lh (P := C.P) w t A n c ht k k' i j h0 h1 h2
    rw [hz w] at h3
    simp [execOp, hev x _ hx, hev y _ hy, hev z _ hj, Instr.sliceAt, run_underlying ht, h3]) rfl (okk_1 h) (okk_2 h) rfl cc
def allR : Except Int ByteArray → Value
  | .ok s => .tuple #[.string s, .int .i64 0]
  | .error n => .tuple #[.string ⟨#[]⟩, .int .i64 n]
set_option maxRecDepth 100000 in
theorem rall_spec (A : Option Addr) (c : Nat) (l : List Int) (hn : l.length ≤ 1000000) (hl : ∀ n ∈ l, -2147483648 ≤ n ∧ n ≤ 2147483647) (hp : okAll l = true → (foldP l).length ≤ 900000 ∧ ∀ q ∈ splitP 46 (foldP l), q.length ≤ 16000 ∧ ∀ t, oneP q = some t → t.size ≤ 500000) (w0 : World) (m0 : List Res) (hA : Rd w0 m0 A (runes l)) :
    PureC Tryz.prog 10 [.slice A l.length c] w0 m0 (allR (allP l)) := by
  refine Ct.of Tryz.func10 rfl (by kernel_rfl) rfl ?_
  (refine c_sq fun k10 h10 => c_rg <| r_as rfl rfl <| r_as rfl rfl <| r_nx h10 <| c_sq fun k12 h12 => c_rg <| r_mv rfl rfl ?_; rotate_left)
  rcases Bool.eq_false_or_eq_true (okAll l) with hok | hok
  · obtain ⟨hF, hparts⟩ := hp hok
    have e1 : rComp (mapAll l) = foldP l := comp_law _
    refine WX.call (m1 := []) (m2 := []) rfl rfl rfl (rfold_ok A c l (by omega) hl hok _ _ (hA.app _)) rfl rfl (fun p _ => ?_)
    rw [e1]
    have hall : allP l = match partsS (splitP 46 (foldP l)) with
      | none => .error 2
      | some ss => if joinP dotB ss = ⟨#[]⟩ then .error 3 else .ok (joinP dotB ss) := by
      unfold allP
      rw [if_neg (by rw [hok]; decide)]
      try rfl
    generalize foldP l = F at hF hparts hall ⊢
    refine WX.room 0 rfl (fun hpc => ?_)
    (refine r_mv rfl rfl <| r_ex rfl rfl rfl <| r_ex rfl rfl rfl <| r_as rfl rfl <| r_as rfl rfl <| r_nx h12 <| c_sq fun k25 h25 => c_sq fun k27 h27 => c_rg <| r_mv rfl rfl <| r_neF rfl rfl rfl (by omega) <| r_nx h27 <| c_cF rfl <| c_sk <| WE.then_n h25 <| c_sq fun k29 h29 => c_rg <| r_as rfl rfl <| r_nx h29 <| c_sq fun k31 h31 => c_rg <| r_as rfl rfl <| r_nx h31 <| c_sq fun k33 h33 => c_sq fun k35 h35 => c_rg <| r_as rfl rfl <| r_nx h35 <| c_bl ?_; rotate_left)
    refine WC.loop (α := Nat × Nat × List ByteArray) (fun x => [(4, SlR p F), (8, .int .i64 x.1), (7, .int .i64 x.2.1), (6, .string (joinP dotB x.2.2))]) (fun _ => [OwnR p F])
      (fun x => (∀ s ∈ x.2.2, s.size ≤ 500000) ∧ x.2.2.length ≤ x.2.1 ∧ ((x.1 = F.length + 1 ∧ x.2.1 = F.length + 1 ∧ partsS (splitP 46 F) = some x.2.2) ∨ (x.1 ≤ F.length ∧ x.2.1 ≤ x.1 ∧ (∀ j, x.2.1 ≤ j → j < x.1 → F.getD j 0 ≠ 46) ∧ (x.2.1 = 0 ↔ x.2.2 = []) ∧ (∀ q ∈ splitP 46 (F.drop x.2.1), q ∈ splitP 46 F) ∧ partsS (splitP 46 F) = (partsS (splitP 46 (F.drop x.2.1))).map (x.2.2 ++ ·))))
      (fun x => F.length + 1 - x.1) (0, 0, []) ⟨by simp, by simp, .inr ⟨by simp, by simp, by simp, by simp, by simp, by simp⟩⟩ ⟨rfl, rfl, rfl, rfl, trivial⟩ Mem.keep ?_
    rintro ⟨i, fr, done⟩ ⟨hs, hd, hc⟩
    dsimp only at hs hd hc ⊢
    rcases hc with ⟨c1, c2, c3⟩ | ⟨c1, c2, c3, c4, c5, c6⟩
    · rw [c3] at hall
      dsimp only at hall
      generalize joinP dotB done = js at hall ⊢
      (refine c_sq fun k48 h48 => c_sq fun k50 h50 => c_rg <| r_mv rfl rfl <| r_mv rfl rfl <| r_ls Tryz.underlying22 rfl rfl <| r_leF rfl rfl rfl (by omega) <| r_nx h50 <| c_cF rfl <| c_ex <| WE.then_x <| WE.then_x <| WE.blk_x <| WE.then_n h33 <| c_sq fun k52 h52 => c_sq fun k54 h54 => c_rg <| r_mv rfl rfl ?_; rotate_left)
      refine r_seq rfl rfl (fun _ => rfl) rfl ?_
      by_cases hjs : js = ⟨#[]⟩
      · rw [if_pos hjs] at hall
        rw [decide_eq_true hjs]
        (refine r_nx h54 <| c_cT rfl <| c_sq fun k58 h58 => c_rg <| r_as rfl rfl <| r_as rfl rfl <| r_nx h58 <| c_rt <| WE.then_r ?_; rotate_left)
        exact WE.ret2 () rfl rfl rfl rfl (by rw [hall]; rfl) trivial Mem.drop
      · rw [if_neg hjs] at hall
        rw [decide_eq_false hjs]
        (refine r_nx h54 <| c_cF rfl <| c_sk <| WE.then_n h52 <| c_sq fun k58 h58 => c_rg <| r_mv rfl rfl <| r_as rfl rfl <| r_as rfl rfl <| r_nx h58 <| c_rt ?_; rotate_left)
        exact WE.ret2 () rfl rfl rfl rfl (by rw [hall]; rfl) trivial Mem.drop
    · by_cases hlt : i < F.length ∧ F.getD i 0 ≠ 46
      · have hlt1 := hlt.1
        have hlt2 := hlt.2
        (refine c_sq fun k51 h51 => c_sq fun k53 h53 => c_rg <| r_mv rfl rfl <| r_mv rfl rfl <| r_ls Tryz.underlying22 rfl rfl <| r_leT rfl rfl rfl (by omega) <| r_nx h53 <| c_cT rfl <| c_sk <| WE.then_n h51 <| c_sq fun k55 h55 => c_bl <| c_sq fun k57 h57 => c_sq fun k59 h59 => c_rg <| r_mv rfl rfl <| r_mv rfl rfl <| r_ls Tryz.underlying22 rfl rfl <| r_ltT rfl rfl rfl (by omega) <| r_mv rfl rfl <| r_mv rfl rfl <| r_mv rfl rfl <| r_im (Rd.own 0 rfl) Tryz.underlying22 (by kernel_rfl) rfl rfl rfl rfl (by omega) (by omega) <| r_li (i) (Rd.own 0 rfl) Tryz.underlying21 rfl rfl rfl (by omega) <| r_neT rfl rfl rfl (by omega) <| r_pT rfl rfl rfl <| r_nx h59 <| c_cT rfl <| c_ex <| WE.then_x <| WE.blk_x <| WE.then_n h55 <| c_rg <| r_mv rfl rfl <| r_ad rfl rfl rfl (wadd64 (by omega)) <| r_as rfl rfl <| r_nl ?_; rotate_left)
        exact WE.back (i + 1, fr, done) ⟨hs, hd, .inr ⟨by dsimp only; omega, by dsimp only; omega, fun j h1 h2 => by
          rcases Nat.lt_succ_iff_lt_or_eq.1 h2 with h' | h'
          · exact c3 j h1 h'
          · rw [h']; exact hlt2, c4, c5, c6⟩⟩ (by dsimp only; omega) ⟨rfl, rfl, rfl, rfl, trivial⟩ Mem.keep
      · have hpl : ((F.drop fr).take (i - fr)).length = i - fr := by simp; omega
        have hnd : ∀ x ∈ (F.drop fr).take (i - fr), x ≠ 46 := by
          intro x hx
          obtain ⟨j, hj, rfl⟩ := List.mem_iff_getElem.1 hx
          rw [hpl] at hj
          have := c3 (fr + j) (by omega) (by omega)
          have hb : fr + j < F.length := by omega
          simp only [List.getElem_take, List.getElem_drop]
          rw [List.getD_eq_getElem?_getD, List.getElem?_eq_getElem hb] at this
          exact this
        have hB : Rd w0 ([OwnR p F] ++ m0) (subA p.1 fr p.2) (runes ((F.drop fr).take (i - fr))) := by
          have := (Rd.own (w0 := w0) (m := [OwnR p F] ++ m0) (A := p.1) (c := p.2) (n := F.length) (xs := runes F) (e := 21) 0 rfl).sub fr (i - fr) p.2 (by simpa using hpc)
          rw [runes, List.map_take, List.map_drop]
          exact this
        have hcut : splitP 46 (F.drop fr) = (F.drop fr).take (i - fr) :: (if i < F.length then splitP 46 (F.drop (i + 1)) else []) := by
          by_cases hi : i < F.length
          · rw [if_pos hi]
            have h46 : F.getD i 0 = 46 := Classical.byContradiction fun h => hlt ⟨hi, h⟩
            rw [← splitP_cut hnd]
            congr 1
            have e2 : F.drop fr = (F.drop fr).take (i - fr) ++ (F.drop fr).drop (i - fr) := (List.take_append_drop _ _).symm
            rw [List.drop_drop, show fr + (i - fr) = i by omega] at e2
            rw [List.append_assoc]
            conv => lhs; rw [e2]
            congr 1
            rw [List.drop_eq_getElem_cons hi]
            rw [List.getD_eq_getElem?_getD, List.getElem?_eq_getElem hi] at h46
            rw [show F[i] = 46 from h46]
            rfl
          · rw [if_neg hi]
            have e2 : (F.drop fr).take (i - fr) = F.drop fr := List.take_of_length_le (by simp; omega)
            rw [e2] at hnd ⊢
            exact splitP_nodot _ hnd
        rw [hcut] at c5 c6
        have hq := hparts _ (c5 _ List.mem_cons_self)
        generalize (F.drop fr).take (i - fr) = q at hpl hB hcut c5 c6 hq hnd
        have hone := rone_spec (subA p.1 fr p.2) (p.2 - fr) q hq.1 w0 ([OwnR p F] ++ m0) hB
        have hsz6 : 500001 * done.length ≤ 500001 * 900001 := Nat.mul_le_mul_left _ (by omega)
        by_cases hi : i < F.length
        · have h46 : F.getD i 0 = 46 := Classical.byContradiction fun h => hlt ⟨hi, h⟩
          rw [if_pos hi] at c5 c6
          (refine c_sq fun k65 h65 => c_sq fun k67 h67 => c_rg <| r_mv rfl rfl <| r_mv rfl rfl <| r_ls Tryz.underlying22 rfl rfl <| r_leT rfl rfl rfl (by omega) <| r_nx h67 <| c_cT rfl <| c_sk <| WE.then_n h65 <| c_sq fun k69 h69 => c_bl <| c_sq fun k71 h71 => c_sq fun k73 h73 => c_rg <| r_mv rfl rfl <| r_mv rfl rfl <| r_ls Tryz.underlying22 rfl rfl <| r_ltT rfl rfl rfl (by omega) <| r_mv rfl rfl <| r_mv rfl rfl <| r_mv rfl rfl <| r_im (Rd.own 0 rfl) Tryz.underlying22 (by kernel_rfl) rfl rfl rfl rfl (by omega) (by omega) <| r_li (i) (Rd.own 0 rfl) Tryz.underlying21 rfl rfl rfl (by omega) <| r_neF rfl rfl rfl (by omega) <| r_pT rfl rfl rfl <| r_nx h73 <| c_cF rfl <| c_sk <| WE.then_n h71 <| c_sq fun k75 h75 => c_rg <| r_mv rfl rfl <| r_mv rfl rfl <| r_mv rfl rfl ?_; rotate_left)
          refine r_sb elem1 size1 rfl rfl rfl (by omega) (by omega) (by omega) rfl ?_
          rw [sliced_sub, show ((i : Int)).toNat - ((fr : Int)).toNat = q.length by omega, show ((fr : Int)).toNat = fr by omega]
          refine WX.pure rfl rfl hone rfl rfl ?_
          cases ho : oneP q with
          | none =>
            rw [partsS, ho] at c6
            rw [c6] at hall
            simp only [oneR]
            (refine r_mv rfl rfl <| r_ex rfl rfl rfl <| r_ex rfl rfl rfl <| r_as rfl rfl <| r_as rfl rfl <| r_nx h75 <| c_sq fun k73 h73 => c_sq fun k75 h75 => c_rg <| r_mv rfl rfl <| r_neT rfl rfl rfl (by omega) <| r_nx h75 <| c_cT rfl <| c_sq fun k77 h77 => c_rg <| r_mv rfl rfl <| r_as rfl rfl <| r_as rfl rfl <| r_nx h77 <| c_rt <| WE.then_r <| WE.blk_r <| WE.then_r <| WE.then_r <| WE.blk_r <| WE.then_r ?_; rotate_left)
            exact WE.ret2 () rfl rfl rfl rfl (by rw [hall]; rfl) trivial Mem.drop
          | some u =>
            have hu := hq.2 u ho
            simp only [oneR]
            have hjl := joinP_size done hs
            have c6' : partsS (splitP 46 F) = (partsS (splitP 46 (F.drop (i + 1)))).map ((done ++ [u]) ++ ·) := by
              rw [c6, partsS, ho]
              cases partsS (splitP 46 (F.drop (i + 1))) with
              | none => rfl
              | some r => simp
            by_cases hf : fr = 0
            · have hdn : done = [] := c4.1 hf
              have hj : (⟨#[]⟩ : ByteArray) ++ u = joinP dotB (done ++ [u]) := by
                rw [hdn]
                apply ba_ext
                simp [joinP]
              rw [hdn]
              (refine r_mv rfl rfl <| r_ex rfl rfl rfl <| r_ex rfl rfl rfl <| r_as rfl rfl <| r_as rfl rfl <| r_nx h75 <| c_sq fun k87 h87 => c_sq fun k89 h89 => c_rg <| r_mv rfl rfl <| r_neF rfl rfl rfl (by omega) <| r_nx h89 <| c_cF rfl <| c_sk <| WE.then_n h87 <| c_sq fun k91 h91 => c_sq fun k93 h93 => c_rg <| r_mv rfl rfl <| r_gtF rfl rfl rfl (by omega) <| r_nx h93 <| c_cF rfl <| c_sk <| WE.then_n h91 <| c_sq fun k95 h95 => c_rg <| r_mv rfl rfl <| r_mv rfl rfl ?_; rotate_left)
              refine r_sad (s := ⟨#[]⟩) rfl rfl rfl (by
                have e0 : (⟨#[]⟩ : ByteArray).size = 0 := rfl
                omega) ?_
              rw [hj]
              (refine r_as rfl rfl <| r_nx h95 <| c_rg <| r_mv rfl rfl <| r_ad rfl rfl rfl (wadd64 (by omega)) <| r_as rfl rfl <| r_nl <| WE.blk_n <| WE.then_n h69 <| c_rg <| r_mv rfl rfl <| r_ad rfl rfl rfl (wadd64 (by omega)) <| r_as rfl rfl <| r_nl ?_; rotate_left)
              exact WE.back (i + 1, i + 1, done ++ [u]) ⟨fun s hs' => by
                  rcases List.mem_append.1 hs' with h | h
                  · exact hs s h
                  · rw [List.mem_singleton] at h; rw [h]; exact hq.2 u ho, by simp; omega, .inr ⟨by dsimp only; omega, by dsimp only; omega, by dsimp only; omega, by simp, fun q' hq' => c5 q' (List.mem_cons_of_mem _ hq'), c6'⟩⟩ (by dsimp only; omega) ⟨rfl, rfl, rfl, rfl, trivial⟩ Mem.keep
            · have hdn : done ≠ [] := fun h => hf (c4.2 h)
              have hj : joinP dotB done ++ dotB ++ u = joinP dotB (done ++ [u]) := (joinP_app done [u] hdn (by simp)).symm
              have e1 : dotB.size = 1 := rfl
              (refine r_mv rfl rfl <| r_ex rfl rfl rfl <| r_ex rfl rfl rfl <| r_as rfl rfl <| r_as rfl rfl <| r_nx h75 <| c_sq fun k88 h88 => c_sq fun k90 h90 => c_rg <| r_mv rfl rfl <| r_neF rfl rfl rfl (by omega) <| r_nx h90 <| c_cF rfl <| c_sk <| WE.then_n h88 <| c_sq fun k92 h92 => c_sq fun k94 h94 => c_rg <| r_mv rfl rfl <| r_gtT rfl rfl rfl (by omega) <| r_nx h94 <| c_cT rfl <| c_rg <| r_mv rfl rfl ?_; rotate_left)
              refine r_sad (u := dotB) rfl rfl rfl (by omega) ?_
              (refine r_as rfl rfl <| r_nx h92 <| c_sq fun k96 h96 => c_rg <| r_mv rfl rfl <| r_mv rfl rfl ?_; rotate_left)
              refine r_sad rfl rfl rfl (by rw [ByteArray.size_append]; omega) ?_
              rw [hj]
              (refine r_as rfl rfl <| r_nx h96 <| c_rg <| r_mv rfl rfl <| r_ad rfl rfl rfl (wadd64 (by omega)) <| r_as rfl rfl <| r_nl <| WE.blk_n <| WE.then_n h69 <| c_rg <| r_mv rfl rfl <| r_ad rfl rfl rfl (wadd64 (by omega)) <| r_as rfl rfl <| r_nl ?_; rotate_left)
              exact WE.back (i + 1, i + 1, done ++ [u]) ⟨fun s hs' => by
                  rcases List.mem_append.1 hs' with h | h
                  · exact hs s h
                  · rw [List.mem_singleton] at h; rw [h]; exact hq.2 u ho, by simp; omega, .inr ⟨by dsimp only; omega, by dsimp only; omega, by dsimp only; omega, by simp, fun q' hq' => c5 q' (List.mem_cons_of_mem _ hq'), c6'⟩⟩ (by dsimp only; omega) ⟨rfl, rfl, rfl, rfl, trivial⟩ Mem.keep
        · rw [if_neg hi] at c5 c6
          (refine c_sq fun k64 h64 => c_sq fun k66 h66 => c_rg <| r_mv rfl rfl <| r_mv rfl rfl <| r_ls Tryz.underlying22 rfl rfl <| r_leT rfl rfl rfl (by omega) <| r_nx h66 <| c_cT rfl <| c_sk <| WE.then_n h64 <| c_sq fun k68 h68 => c_bl <| c_sq fun k70 h70 => c_sq fun k72 h72 => c_rg <| r_mv rfl rfl <| r_mv rfl rfl <| r_ls Tryz.underlying22 rfl rfl <| r_ltF rfl rfl rfl (by omega) <| r_mv rfl rfl <| r_sk rfl rfl <| r_sk rfl rfl <| r_sk rfl rfl <| r_sk rfl rfl <| r_sk rfl rfl <| r_pF rfl rfl rfl <| r_nx h72 <| c_cF rfl <| c_sk <| WE.then_n h70 <| c_sq fun k74 h74 => c_rg <| r_mv rfl rfl <| r_mv rfl rfl <| r_mv rfl rfl ?_; rotate_left)
          refine r_sb elem1 size1 rfl rfl rfl (by omega) (by omega) (by omega) rfl ?_
          rw [sliced_sub, show ((i : Int)).toNat - ((fr : Int)).toNat = q.length by omega, show ((fr : Int)).toNat = fr by omega]
          refine WX.pure rfl rfl hone rfl rfl ?_
          cases ho : oneP q with
          | none =>
            rw [partsS, ho] at c6
            rw [c6] at hall
            simp only [oneR]
            (refine r_mv rfl rfl <| r_ex rfl rfl rfl <| r_ex rfl rfl rfl <| r_as rfl rfl <| r_as rfl rfl <| r_nx h74 <| c_sq fun k72 h72 => c_sq fun k74 h74 => c_rg <| r_mv rfl rfl <| r_neT rfl rfl rfl (by omega) <| r_nx h74 <| c_cT rfl <| c_sq fun k76 h76 => c_rg <| r_mv rfl rfl <| r_as rfl rfl <| r_as rfl rfl <| r_nx h76 <| c_rt <| WE.then_r <| WE.blk_r <| WE.then_r <| WE.then_r <| WE.blk_r <| WE.then_r ?_; rotate_left)
            exact WE.ret2 () rfl rfl rfl rfl (by rw [hall]; rfl) trivial Mem.drop
          | some u =>
            have hu := hq.2 u ho
            simp only [oneR]
            have hjl := joinP_size done hs
            have c6' : partsS (splitP 46 F) = some (done ++ [u]) := by
              rw [c6, partsS, ho]
              simp [partsS]
            by_cases hf : fr = 0
            · have hdn : done = [] := c4.1 hf
              have hj : (⟨#[]⟩ : ByteArray) ++ u = joinP dotB (done ++ [u]) := by
                rw [hdn]
                apply ba_ext
                simp [joinP]
              rw [hdn]
              (refine r_mv rfl rfl <| r_ex rfl rfl rfl <| r_ex rfl rfl rfl <| r_as rfl rfl <| r_as rfl rfl <| r_nx h74 <| c_sq fun k86 h86 => c_sq fun k88 h88 => c_rg <| r_mv rfl rfl <| r_neF rfl rfl rfl (by omega) <| r_nx h88 <| c_cF rfl <| c_sk <| WE.then_n h86 <| c_sq fun k90 h90 => c_sq fun k92 h92 => c_rg <| r_mv rfl rfl <| r_gtF rfl rfl rfl (by omega) <| r_nx h92 <| c_cF rfl <| c_sk <| WE.then_n h90 <| c_sq fun k94 h94 => c_rg <| r_mv rfl rfl <| r_mv rfl rfl ?_; rotate_left)
              refine r_sad (s := ⟨#[]⟩) rfl rfl rfl (by
                have e0 : (⟨#[]⟩ : ByteArray).size = 0 := rfl
                omega) ?_
              rw [hj]
              (refine r_as rfl rfl <| r_nx h94 <| c_rg <| r_mv rfl rfl <| r_ad rfl rfl rfl (wadd64 (by omega)) <| r_as rfl rfl <| r_nl <| WE.blk_n <| WE.then_n h68 <| c_rg <| r_mv rfl rfl <| r_ad rfl rfl rfl (wadd64 (by omega)) <| r_as rfl rfl <| r_nl ?_; rotate_left)
              exact WE.back (i + 1, i + 1, done ++ [u]) ⟨fun s hs' => by
                  rcases List.mem_append.1 hs' with h | h
                  · exact hs s h
                  · rw [List.mem_singleton] at h; rw [h]; exact hq.2 u ho, by simp; omega, .inl ⟨by dsimp only; omega, by dsimp only; omega, c6'⟩⟩ (by dsimp only; omega) ⟨rfl, rfl, rfl, rfl, trivial⟩ Mem.keep
            · have hdn : done ≠ [] := fun h => hf (c4.2 h)
              have hj : joinP dotB done ++ dotB ++ u = joinP dotB (done ++ [u]) := (joinP_app done [u] hdn (by simp)).symm
              have e1 : dotB.size = 1 := rfl
              (refine r_mv rfl rfl <| r_ex rfl rfl rfl <| r_ex rfl rfl rfl <| r_as rfl rfl <| r_as rfl rfl <| r_nx h74 <| c_sq fun k87 h87 => c_sq fun k89 h89 => c_rg <| r_mv rfl rfl <| r_neF rfl rfl rfl (by omega) <| r_nx h89 <| c_cF rfl <| c_sk <| WE.then_n h87 <| c_sq fun k91 h91 => c_sq fun k93 h93 => c_rg <| r_mv rfl rfl <| r_gtT rfl rfl rfl (by omega) <| r_nx h93 <| c_cT rfl <| c_rg <| r_mv rfl rfl ?_; rotate_left)
              refine r_sad (u := dotB) rfl rfl rfl (by omega) ?_
              (refine r_as rfl rfl <| r_nx h91 <| c_sq fun k95 h95 => c_rg <| r_mv rfl rfl <| r_mv rfl rfl ?_; rotate_left)
              refine r_sad rfl rfl rfl (by rw [ByteArray.size_append]; omega) ?_
              rw [hj]
              (refine r_as rfl rfl <| r_nx h95 <| c_rg <| r_mv rfl rfl <| r_ad rfl rfl rfl (wadd64 (by omega)) <| r_as rfl rfl <| r_nl <| WE.blk_n <| WE.then_n h68 <| c_rg <| r_mv rfl rfl <| r_ad rfl rfl rfl (wadd64 (by omega)) <| r_as rfl rfl <| r_nl ?_; rotate_left)
              exact WE.back (i + 1, i + 1, done ++ [u]) ⟨fun s hs' => by
                  rcases List.mem_append.1 hs' with h | h
                  · exact hs s h
                  · rw [List.mem_singleton] at h; rw [h]; exact hq.2 u ho, by simp; omega, .inl ⟨by dsimp only; omega, by dsimp only; omega, c6'⟩⟩ (by dsimp only; omega) ⟨rfl, rfl, rfl, rfl, trivial⟩ Mem.keep
  · have hall : allP l = .error 2 := by unfold allP; rw [if_pos hok]
    refine WX.call (m1 := []) (m2 := []) rfl rfl rfl (rfold_no A c l (by omega) hl hok _ _ (hA.app _)) rfl rfl (fun _ _ => ?_)
    (refine r_mv rfl rfl <| r_ex rfl rfl rfl <| r_ex rfl rfl rfl <| r_as rfl rfl <| r_as rfl rfl <| r_nx h12 <| c_sq fun k18 h18 => c_sq fun k20 h20 => c_rg <| r_mv rfl rfl <| r_neT rfl rfl rfl (by omega) <| r_nx h20 <| c_cT rfl <| c_sq fun k22 h22 => c_rg <| r_mv rfl rfl <| r_as rfl rfl <| r_as rfl rfl <| r_nx h22 <| c_rt <| WE.then_r ?_; rotate_left)
    exact WE.ret2 () rfl rfl rfl rfl (by rw [hall]; rfl) trivial Mem.drop
end Go.Proofs.YthnabbidlmihbaaGreatDoor

/- A list of runes, by its own numbers. -/
namespace Go.Proofs.YthnabbidlmihbaaGreatDoor
open Go.RowKit Go.Gp
theorem R32.of_all {l : List Int} (h : l.all (fun c => decide (-2147483648 ≤ c) && decide (c ≤ 2147483647)) = true) : R32 l := by
  intro i hi
  have h2 := List.all_eq_true.1 h (l.getD i 0) (by simp [hi])
  simp only [Bool.and_eq_true, decide_eq_true_eq] at h2
  exact h2
end Go.Proofs.YthnabbidlmihbaaGreatDoor

/- The contract of layer 6's 'awake'. -/
set_option linter.unusedVariables false
namespace Go.Proofs.YthnabbidlmihbaaGreatDoor
open Go.RowKit Go.Gp

abbrev w6 : List Int := [66, 220, 67, 104, 101, 114, 12290, 120]
abbrev w6s : ByteArray := ⟨#[120, 110, 45, 45, 98, 99, 104, 101, 114, 45, 107, 118, 97, 46, 120]⟩
theorem allP_w6 : allP w6 = .ok w6s := by
  have h1 : okAll w6 = true := by decide +kernel
  have h2 : (partsS (splitP 46 (foldP w6))).map (joinP dotB) = some w6s := by decide +kernel
  unfold allP
  rw [if_neg (by rw [h1]; decide)]
  cases hp : partsS (splitP 46 (foldP w6)) with
  | none => rw [hp] at h2; cases h2
  | some ss =>
    rw [hp] at h2
    have e : joinP dotB ss = w6s := by simpa using h2
    simp only
    rw [e, if_neg (by decide)]
theorem allP_nil : allP [] = .error 3 := by
  have h2 : partsS (splitP 46 (foldP [])) = some [⟨#[]⟩] := by decide +kernel
  unfold allP
  rw [if_neg (by decide), h2]
  rfl
theorem oneP_769 : oneP [769] = none := by decide +kernel
theorem EcR.own2 {w0 : World} {r m0 : List Res} {n : Int} (L : List (Nat × ByteArray)) : EcR w0 ((ecm L n ++ r) ++ m0) L n := by
  rw [List.append_assoc]
  exact EcR.own L
theorem EcR.cons {w0 : World} {m : List Res} {n : Int} {L : List (Nat × ByteArray)} (h : EcR w0 m L n) (x : Res) : EcR w0 (x :: m) L n := EcR.mono (fun _ hw => Mem.tail hw) h
theorem EcR.skip {w0 : World} {a r m0 : List Res} {n : Int} {L : List (Nat × ByteArray)} (h : EcR w0 (r ++ m0) L n) : EcR w0 ((a ++ r) ++ m0) L n := by
  rw [List.append_assoc]
  exact h.app a
theorem Mem.comm {w0 : World} {a b m0 : List Res} : ∀ w, Mem w0 ((a ++ b) ++ m0) w → Mem w0 ((b ++ a) ++ m0) w := fun _ h => h.perm (List.perm_append_comm.append_right m0)
set_option maxRecDepth 100000 in
theorem awake6_spec (w0 : World) (m0 : List Res) : PureC Tryz.prog 5 [] w0 m0 (.bool true) := by
  refine Ct.of Tryz.func5 rfl (by kernel_rfl) rfl ?_
  (refine c_sq fun k3 h3 => c_rg <| r_as rfl rfl <| r_nx h3 <| c_sq fun k5 h5 => c_rg <| r_bo Tryz.underlying22 rfl (fun _ => by kernel_rfl) rfl rfl rfl (fun _ => ?_); rotate_left)
  rename_i b
  refine WX.call (m1 := []) (m2 := _) rfl rfl rfl (all_spec (some ⟨b, 0, none⟩) 8 w6 (by decide) (R32.of_all rfl) (fun _ => short_ok (by decide +kernel)) _ _ (Rd.own 0 rfl)) rfl rfl (fun L _ => ?_)
  rw [allP_w6]
  simp only [allV, allM, List.nil_append]
  (refine r_mv rfl rfl <| r_ex rfl rfl rfl <| r_ex rfl rfl rfl <| r_as rfl rfl <| r_as rfl rfl <| r_nx h5 <| c_sq fun k10 h10 => c_rg ?_; rotate_left)
  refine WX.call (m1 := []) (m2 := _) rfl rfl rfl (all_spec none 0 [] (by decide) (R32.of_all rfl) (fun _ => short_ok (by decide +kernel)) _ _ (Rd.nil _)) rfl rfl (fun L2 _ => ?_)
  rw [allP_nil]
  simp only [allV, allM]
  have hs2 : ∀ mm, EcR w0 mm L2 3 → PureC Tryz.prog 11 [ecv L2 3, .iface 30 (.int .i64 3)] w0 mm (.bool true) := fun mm h => is_spec L2 3 3 w0 mm h
  obtain ⟨T2, v2, he2⟩ := ecv_form L2 3
  rw [he2] at hs2 ⊢
  (refine r_mv rfl rfl <| r_ex rfl rfl rfl <| r_ex rfl rfl rfl <| r_as rfl rfl <| r_as rfl rfl <| r_nx h10 <| c_sq fun k19 h19 => c_rg <| r_bo Tryz.underlying22 rfl (fun _ => by kernel_rfl) rfl rfl rfl (fun _ => ?_); rotate_left)
  rename_i b3
  refine WX.call (m1 := []) (m2 := _) rfl rfl rfl (one_spec (some ⟨b3, 0, none⟩) 1 [769] (by decide) _ _ (Rd.own 0 rfl)) rfl rfl (fun b4 _ => ?_)
  rw [oneP_769]
  simp only [oneV, oneM]
  have hs3 : ∀ mm, EcR w0 mm [(b4, sLabel)] 2 → PureC Tryz.prog 11 [ecv [(b4, sLabel)] 2, .iface 30 (.int .i64 2)] w0 mm (.bool true) := fun mm h => is_spec [(b4, sLabel)] 2 2 w0 mm h
  simp only [ecv, ecm] at hs3 ⊢
  (refine r_mv rfl rfl <| r_ex rfl rfl rfl <| r_ex rfl rfl rfl <| r_as rfl rfl <| r_as rfl rfl <| r_nx h19 <| c_sq fun k25 h25 => c_rg <| r_mv rfl rfl ?_; rotate_left)
  refine r_bk (.bool true) rfl rfl (fun _ => by kernel_rfl) rfl ?_
  (refine r_mv rfl rfl <| r_mv rfl rfl <| r_bk (.bool true) rfl rfl (fun _ => by kernel_rfl) rfl <| r_pT rfl rfl rfl <| r_mv rfl rfl <| r_mv rfl rfl <| r_bk (.bool true) rfl rfl (fun _ => by kernel_rfl) rfl <| r_pT rfl rfl rfl <| r_mv rfl rfl <| r_mv rfl rfl <| r_mi rfl (fun _ => by kernel_rfl) rfl ?_; rotate_left)
  refine WX.pure (v := .bool true) rfl rfl (hs2 _ (((EcR.own2 L2).cons _).cons _)) rfl rfl ?_
  (refine r_pT rfl rfl rfl <| r_mv rfl rfl <| r_mv rfl rfl <| r_bk (.bool true) rfl rfl (fun _ => by kernel_rfl) rfl <| r_pT rfl rfl rfl <| r_mv rfl rfl <| r_mv rfl rfl <| r_mi rfl (fun _ => by kernel_rfl) rfl ?_; rotate_left)
  refine WX.pure (v := .bool true) rfl rfl (hs3 _ ⟨Rd.blk 0 rfl, trivial⟩) rfl rfl ?_
  (refine r_pT rfl rfl rfl <| r_as rfl rfl <| r_nx h25 <| c_rt ?_; rotate_left)
  exact WE.ret1 () rfl rfl rfl trivial Mem.drop
end Go.Proofs.YthnabbidlmihbaaGreatDoor

/- errors.As at a target of the number's type, and fail.Code: their contracts. -/
namespace Go.Proofs.YthnabbidlmihbaaGreatDoor
open Go.RowKit Go.Gp Go.Extern.Stop Go.Stop Go.Extern

abbrev hdl (t : Nat) : Value := .pointer (some ⟨2, t, none⟩)
/-- What the variable errors.errorType holds. -/
abbrev errT : Value := .iface 99 (.agg #[hdl 25])
abbrev PE : Nat := 43
abbrev EE : Nat := 30
abbrev vPE (a : Nat) : Value := .agg #[hdl PE, .pointer (some ⟨a, 0, none⟩), .int .u64 150]
abbrev vEa (a : Nat) : Value := .agg #[hdl EE, .pointer (some ⟨a, 0, none⟩), .int .u64 386]
abbrev vE (a : Nat) : Value := .agg #[hdl EE, .pointer (some ⟨a, 0, none⟩), .int .u64 130]

theorem x_valueOfP (t : Addr) (w : World) : (callFunc 57 #[.iface PE (.pointer (some t))]).run Tryz.prog w = .ok (.value (vPE w.heap.size)) (w.alloc (.cells #[.pointer (some t)] PE)) := by kernel_rfl
theorem x_valueOfE (n : Int) (w : World) : (callFunc 57 #[.iface EE (.int .i64 n)]).run Tryz.prog w = .ok (.value (vE w.heap.size)) (w.alloc (.cells #[.int .i64 n] EE)) := by kernel_rfl
theorem rlm (z : Sem Value) (f : TypeId → Addr → Nat → Nat → Sem Value) (v : Value) :
    ReflectliteValue.method z f #[v] = (do match ← ReflectliteValue.parts v with | none => z | some (t, a, fl) => f t a fl (fl % 32)) := rfl
theorem rls (v x : Value) : ReflectliteValue.set #[v, x] = (do
    let (some (dst, a, fl), some (src, b, _)) := (← ReflectliteValue.parts v, ← ReflectliteValue.parts x)
      | unsupported (.noEntry "extern/(internal/reflectlite.Value).Set.zeroValue")
    if fl / ReflectliteValue.flagAddr % 2 == 0 then unsupported (.noEntry "extern/(internal/reflectlite.Value).Set.unaddressable")
    let val ← loadVar src b
    if ← Rtype.directlyAssignable dst src then storeVar dst a val
    else if ← Rtype.implements dst src then
      if (← Rtype.kind src) == 20 then
        match val with
        | .nilIface => unsupported (.noEntry "extern/reflectlite: a nil value of one interface type handed on as a value of another")
        | _ => storeVar dst a val
      else storeVar dst a (.iface src val)
    else panicString ("reflectlite.Set: value of type " ++ (← Rtype.spelt src) ++ " is not assignable to type " ++ (← Rtype.spelt dst))
    pure (.tuple #[])) := rfl
theorem x_partsP (a : Nat) (w : World) : (ReflectliteValue.parts (vPE a)).run Tryz.prog w = .ok (some (PE, ⟨a, 0, none⟩, 150)) w := by kernel_rfl
theorem x_partsEa (a : Nat) (w : World) : (ReflectliteValue.parts (vEa a)).run Tryz.prog w = .ok (some (EE, ⟨a, 0, none⟩, 386)) w := by kernel_rfl
theorem x_partsE (a : Nat) (w : World) : (ReflectliteValue.parts (vE a)).run Tryz.prog w = .ok (some (EE, ⟨a, 0, none⟩, 130)) w := by kernel_rfl
theorem x_elemOf (w : World) : (Rtype.elem? PE).run Tryz.prog w = .ok (some EE) w := by kernel_rfl
theorem x_mk (p : Addr) (w : World) : (ReflectliteValue.mk EE p ReflectliteValue.flagAddr).run Tryz.prog w = .ok (.agg #[hdl EE, .pointer (some p), .int .u64 386]) w := by kernel_rfl
theorem x_direct (w : World) : (Rtype.directlyAssignable EE EE).run Tryz.prog w = .ok true w := by kernel_rfl
theorem x_isNil (a t : Nat) (w : World) (ha : w.cell? ⟨a, 0, none⟩ = some (.pointer (some ⟨t, 0, none⟩))) :
    (callFunc 59 #[vPE a]).run Tryz.prog w = .ok (.value (.bool false)) w := by
  rw [run_callFunc_extern (e := ReflectliteValue.method (ReflectliteValue.valueError "reflectlite.Value.IsNil" 0) ReflectliteValue.isNil) Tryz.func59 (by kernel_rfl) (by kernel_rfl) (by kernel_rfl) (by kernel_rfl), rlm]
  simp only [Sem.run_bind, x_partsP, Result.andThen]
  simp [ReflectliteValue.isNil, loadVar, isAgg, underlying, Tryz.underlying43, ha, Result.andThen]
theorem x_elem (a t : Nat) (w : World) (ha : w.cell? ⟨a, 0, none⟩ = some (.pointer (some ⟨t, 0, none⟩))) :
    (callFunc 80 #[vPE a]).run Tryz.prog w = .ok (.value (vEa t)) w := by
  rw [run_callFunc_extern (e := ReflectliteValue.method (ReflectliteValue.valueError "reflectlite.Value.Elem" 0) ReflectliteValue.elem) Tryz.func80 (by kernel_rfl) (by kernel_rfl) (by kernel_rfl) (by kernel_rfl), rlm]
  simp only [Sem.run_bind, x_partsP, Result.andThen]
  simp [ReflectliteValue.elem, loadVar, isAgg, underlying, Tryz.underlying43, ha, Result.andThen, x_elemOf, x_mk]
theorem x_set (ta b : Nat) (n : Int) (old : Value) (w : World) (hb : w.cell? ⟨b, 0, none⟩ = some (.int .i64 n)) (ht : w.cell? ⟨ta, 0, none⟩ = some old) (hf : w.frozen? ⟨ta, 0, none⟩ = false) :
    (callFunc 81 #[vEa ta, vE b]).run Tryz.prog w = .ok (.value (.tuple #[])) (w.setCell ⟨ta, 0, none⟩ (.int .i64 n)) := by
  rw [run_callFunc_extern (e := ReflectliteValue.set) Tryz.func81 (by kernel_rfl) (by kernel_rfl) (by kernel_rfl) (by kernel_rfl), rls]
  simp only [Sem.run_bind, x_partsEa, x_partsE, Result.andThen]
  simp [ReflectliteValue.flagAddr, loadVar, isAgg, underlying, Tryz.underlying30, hb, Result.andThen, x_direct, storeVar, Value.cells, storeCells, Addr.add]
  rw [run_store Tryz.prog w ⟨ta, 0, none⟩ _ _ (by rfl)]
  simp [ht, hf]
theorem noAsF (v : Value) (xT : TypeId) (w : World) : (Instr.typeAssert (.iface 57 v) xT 117 true).run Tryz.prog w = .ok (.tuple #[.nilIface, .bool false]) w := run_typeAssert_lacksB Tryz.underlying117 (by kernel_rfl) (by kernel_rfl) v xT w
end Go.Proofs.YthnabbidlmihbaaGreatDoor

/- errors.As and fail.Code: the walks. -/
namespace Go.Proofs.YthnabbidlmihbaaGreatDoor
open Go.RowKit Go.Gp Go.Extern.Stop Go.Stop Go.Extern

set_option maxRecDepth 100000 in
theorem as_loop (L : List (Nat × ByteArray)) (n z : Int) (a bn : Nat) (w0 : World) (m0 : List Res) (hL : EcR w0 m0 L n) (hA : Rd w0 m0 (some ⟨a, 0, none⟩) [.pointer (some ⟨bn, 0, none⟩)]) :
    Ct (α := Unit) Tryz.prog 60 [ecv L n, .iface PE (.pointer (some ⟨bn, 0, none⟩)), vPE a, .iface 99 (.agg #[hdl EE])] w0 [.blk bn [.int .i64 z] EE] m0 (fun _ => True) (fun _ => .bool true) (fun _ => [.blk bn [.int .i64 n] EE]) := by
  refine Ct.of Tryz.func60 rfl (by kernel_rfl) rfl ?_
  (refine c_sq fun k10 h10 => c_rg <| r_bx rfl rfl rfl (fun _ => ?_); refine r_as rfl rfl <| r_nx h10 <| c_bl ?_; rotate_left)
  rename_i bx
  refine WC.loop (α := List (Nat × ByteArray)) (fun r => [(0, ecv r n), (1, .iface PE (.pointer (some ⟨bn, 0, none⟩))), (3, .iface 99 (.agg #[hdl EE])), (6, .pointer (some ⟨bx, 0, none⟩)), (8, .bool false)])
    (fun _ => [.blk bx [hdl PE, .pointer (some ⟨a, 0, none⟩), .int .u64 150] 86, .blk bn [.int .i64 z] EE]) (fun r => EcR w0 m0 r n) (fun r => r.length) L hL ⟨rfl, rfl, rfl, rfl, rfl, trivial⟩ Mem.keep ?_
  rintro r hr
  cases r with
  | nil =>
    show WC _ _ _ [(0, .iface 30 (.int .i64 n)), (1, .iface PE (.pointer (some ⟨bn, 0, none⟩))), (3, .iface 99 (.agg #[hdl EE])), (6, .pointer (some ⟨bx, 0, none⟩)), (8, .bool false)] _
    (refine c_bl <| c_sq fun k14 h14 => c_sq fun k16 h16 => c_rg <| r_mv rfl rfl ?_; rotate_left)
    refine r_xv (v := .iface 99 (.agg #[hdl EE])) rfl rfl (fun _ => by kernel_rfl) rfl ?_
    (refine r_mv rfl rfl ?_; rotate_left)
    refine r_iv (v := .bool true) rfl rfl (fun _ => by kernel_rfl) rfl ?_
    (refine r_nx h16 <| c_cT rfl <| c_sq fun k18 h18 => c_rg <| r_la 0 Tryz.underlying86 rfl (by kernel_rfl) rfl rfl rfl ?_; rotate_left)
    refine r_xm (v := vEa bn) rfl rfl (fun w hw => x_elem a bn w ((hA.app _).get hw rfl)) rfl ?_
    (refine r_mv rfl rfl ?_; rotate_left)
    refine r_xa (val := vE) rfl rfl (fun w => x_valueOfE n w) rfl (fun bq => ?_)
    refine r_xs 2 (bb := bn) (o := 0) (u := .int .i64 n) (v := .tuple #[]) rfl rfl rfl Nat.zero_lt_one rfl (fun w hw => x_set bn bq n (.int .i64 z) w (hw.cellAt 0 rfl Nat.zero_lt_one).1 (hw.cellAt 2 rfl Nat.zero_lt_one).1 (hw.cellAt 2 rfl Nat.zero_lt_one).2) rfl ?_
    (refine r_nx h18 <| c_sq fun k21 h21 => c_rg <| r_as rfl rfl <| r_nx h21 <| c_rt <| WE.then_r <| WE.blk_r <| WE.then_r <| WE.blk_r ?_; rotate_left)
    exact WE.ret1 () rfl rfl rfl trivial (Mem.pick [2] (by decide) rfl)
  | cons p r =>
    obtain ⟨b, s⟩ := p
    obtain ⟨hr1, hr2⟩ := hr
    obtain ⟨T, v, he⟩ := ecv_form r n
    show WC _ _ _ [(0, .iface 57 (.pointer (some ⟨b, 0, none⟩))), (1, .iface PE (.pointer (some ⟨bn, 0, none⟩))), (3, .iface 99 (.agg #[hdl EE])), (6, .pointer (some ⟨bx, 0, none⟩)), (8, .bool false)] _
    (refine c_bl <| c_sq fun k24 h24 => c_sq fun k26 h26 => c_rg <| r_mv rfl rfl ?_; rotate_left)
    refine r_xv (v := .iface 99 (.agg #[hdl 57])) rfl rfl (fun _ => by kernel_rfl) rfl ?_
    (refine r_mv rfl rfl ?_; rotate_left)
    refine r_iv (v := .bool false) rfl rfl (fun _ => by kernel_rfl) rfl ?_
    (refine r_nx h26 <| c_cF rfl <| c_sk <| WE.then_n h24 <| c_sq fun k28 h28 => c_sq fun k30 h30 => c_rg <| r_mv rfl rfl ?_; rotate_left)
    refine r_ta rfl (noAsF _ _) rfl ?_
    (refine r_mv rfl rfl <| r_ex rfl rfl rfl <| r_ex rfl rfl rfl <| r_as rfl rfl <| r_as rfl rfl <| r_nx h30 <| c_sq fun k32 h32 => c_rg <| r_mv rfl rfl <| r_mv rfl rfl <| r_sk rfl rfl <| r_sk rfl rfl <| r_sk rfl rfl <| r_pF rfl rfl rfl <| r_nx h32 <| c_cF rfl <| c_sk <| WE.then_n h28 <| c_sq fun k34 h34 => c_rg <| r_mv rfl rfl <| r_nx h34 <| c_bl <| c_sq fun k36 h36 => c_rg ?_; rotate_left)
    refine r_ta rfl (hasUnF _ _) rfl ?_
    (refine r_ex rfl rfl rfl <| r_ex rfl rfl rfl <| r_nx h36 <| c_cT rfl <| c_sq fun k38 h38 => c_rg <| r_as rfl rfl <| r_nx h38 <| c_sq fun k40 h40 => c_rg <| r_mv rfl rfl ?_; rotate_left)
    refine WX.invoke (m1 := []) (m2 := _) rfl rfl (fun _ => by kernel_rfl) rfl (unwrap_spec b s _ _ _ (Rd.app hr1 _)) rfl rfl (fun _ _ => ?_)
    rw [he]
    (refine r_as rfl rfl <| r_nx h40 <| c_sq fun k44 h44 => c_rg <| r_mv rfl rfl <| r_bk (.bool false) rfl rfl (fun _ => by kernel_rfl) rfl <| r_nx h44 <| c_cF rfl <| c_sk <| WE.blk_n <| WE.blk_n ?_; rotate_left)
    exact WE.back r hr2 (by simp) ⟨by rw [he]; rfl, rfl, rfl, rfl, rfl, trivial⟩ Mem.keep

set_option maxRecDepth 100000 in
theorem as_spec (L : List (Nat × ByteArray)) (n z : Int) (bn : Nat) (w0 : World) (m0 : List Res) (hL : EcR w0 m0 L n) (hE : Rd w0 m0 (some ⟨0, 0, none⟩) [errT]) :
    Ct (α := Unit) Tryz.prog 28 [ecv L n, .iface PE (.pointer (some ⟨bn, 0, none⟩))] w0 [.blk bn [.int .i64 z] EE] m0 (fun _ => True) (fun _ => .bool true) (fun _ => [.blk bn [.int .i64 n] EE]) := by
  refine Ct.of Tryz.func28 rfl (by kernel_rfl) rfl ?_
  obtain ⟨T, v, he⟩ := ecv_form L n
  have hi := fun a m1 z => as_loop L n z a bn w0 (m1 ++ m0) (hL.app _)
  rw [he] at hi ⊢
  (refine c_sq fun k14 h14 => c_rg <| r_as rfl rfl <| r_nx h14 <| c_sq fun k16 h16 => c_sq fun k18 h18 => c_rg <| r_mv rfl rfl <| r_bk (.bool false) rfl rfl (fun _ => by kernel_rfl) rfl <| r_nx h18 <| c_cF rfl <| c_sk <| WE.then_n h16 <| c_sq fun k20 h20 => c_sq fun k22 h22 => c_rg <| r_mv rfl rfl <| r_bk (.bool false) rfl rfl (fun _ => by kernel_rfl) rfl <| r_nx h22 <| c_cF rfl <| c_sk <| WE.then_n h20 <| c_sq fun k24 h24 => c_rg <| r_mv rfl rfl ?_; rotate_left)
  refine r_xa (val := vPE) rfl rfl (fun w => x_valueOfP _ w) rfl (fun a => ?_)
  (rotate_left)
  refine r_al (z := .agg #[.pointer none, .pointer none, .int .u64 0]) (cs := [.pointer none, .pointer none, .int .u64 0]) (fun _ => by kernel_rfl) rfl rfl (fun b => ?_)
  (refine r_sa 0 (by kernel_rfl) rfl rfl rfl rfl rfl rfl rfl <| r_nx h24 <| c_sq fun k28 h28 => c_rg <| r_la 0 Tryz.underlying86 rfl (by kernel_rfl) rfl rfl rfl ?_; rotate_left)
  refine r_xv (v := .iface 99 (.agg #[hdl PE])) rfl rfl (fun _ => by kernel_rfl) rfl ?_
  (refine r_as rfl rfl <| r_nx h28 <| c_sq fun k30 h30 => c_sq fun k32 h32 => c_rg <| r_mv rfl rfl ?_; rotate_left)
  refine r_iv (v := .int .u8 22) rfl rfl (fun _ => by kernel_rfl) rfl ?_
  (refine r_neF rfl rfl rfl (by omega) <| r_mv rfl rfl <| r_la 0 Tryz.underlying86 rfl (by kernel_rfl) rfl rfl rfl ?_; rotate_left)
  refine r_xm (v := .bool false) rfl rfl (fun w hw => x_isNil a bn w (hw.cellAt 1 rfl Nat.zero_lt_one).1) rfl ?_
  (refine r_pF rfl rfl rfl <| r_nx h32 <| c_cF rfl <| c_sk <| WE.then_n h30 <| c_sq fun k34 h34 => c_rg <| r_mv rfl rfl ?_; rotate_left)
  refine r_iv (v := .iface 99 (.agg #[hdl EE])) rfl rfl (fun _ => by kernel_rfl) rfl ?_
  (refine r_as rfl rfl <| r_nx h34 <| c_sq fun k36 h36 => c_sq fun k38 h38 => c_rg <| r_mv rfl rfl ?_; rotate_left)
  refine r_iv (v := .int .u8 2) rfl rfl (fun _ => by kernel_rfl) rfl ?_
  (refine r_neT rfl rfl rfl (by omega) <| r_mv rfl rfl <| r_mv rfl rfl ?_; rotate_left)
  refine r_lr (i := 0) (A := some ⟨0, 0, none⟩) Tryz.underlying53 rfl rfl rfl (hE.app _) rfl ?_
  (rotate_left)
  refine r_iv (v := .bool true) rfl rfl (fun _ => by kernel_rfl) rfl ?_
  (refine r_no rfl rfl rfl <| r_pT rfl rfl rfl <| r_nx h38 <| c_cF rfl <| c_sk <| WE.then_n h36 <| c_sq fun k40 h40 => c_rg <| r_mv rfl rfl <| r_mv rfl rfl <| r_la 0 Tryz.underlying86 rfl (by kernel_rfl) rfl rfl rfl <| r_mv rfl rfl ?_; rotate_left)
  refine WX.mem (m' := [.blk bn [.int .i64 z] EE, .blk a [.pointer (some ⟨bn, 0, none⟩)] PE]) (Mem.pick [2, 1] (by decide) rfl) ?_
  refine WX.call (m1 := [.blk bn [.int .i64 z] EE]) (m2 := [.blk a [.pointer (some ⟨bn, 0, none⟩)] PE]) rfl rfl rfl (hi a _ z (Rd.blk 0 rfl)) rfl rfl (fun _ _ => ?_)
  (refine r_as rfl rfl <| r_nx h40 <| c_rt ?_; rotate_left)
  exact WE.ret1 () rfl rfl rfl trivial (Mem.pick [0] (by decide) rfl)
set_option maxRecDepth 100000 in
theorem code_spec (L : List (Nat × ByteArray)) (n : Int) (w0 : World) (m0 : List Res) (hL : EcR w0 m0 L n) (hE : Rd w0 m0 (some ⟨0, 0, none⟩) [errT]) :
    PureC Tryz.prog 8 [ecv L n] w0 m0 (.int .i64 n) := by
  refine Ct.of Tryz.func8 rfl (by kernel_rfl) rfl ?_
  obtain ⟨T, v, he⟩ := ecv_form L n
  have hi := fun bn m1 z => as_spec L n z bn w0 (m1 ++ m0) (hL.app _) (hE.app _)
  rw [he] at hi ⊢
  (refine c_sq fun k12 h12 => c_rg <| r_as rfl rfl <| r_nx h12 <| c_sq fun k14 h14 => c_rg <| r_al (z := .int .i64 0) (cs := [.int .i64 0]) (fun _ => by kernel_rfl) rfl rfl (fun _ => ?_); refine r_nx h14 <| c_sq fun k17 h17 => c_bl <| c_sq fun k19 h19 => c_rg <| r_mv rfl rfl <| r_bk (.bool false) rfl rfl (fun _ => by kernel_rfl) rfl <| r_as rfl rfl <| r_nx h19 <| c_cF rfl <| c_sq fun k21 h21 => c_rg <| r_mv rfl rfl <| r_mi rfl (fun _ => by kernel_rfl) rfl ?_; rotate_left)
  rename_i bn
  refine WX.call (m1 := [.blk bn [.int .i64 0] EE]) (m2 := []) rfl rfl rfl (hi bn _ 0) rfl rfl (fun _ _ => ?_)
  (refine r_as rfl rfl <| r_nx h21 <| c_cT rfl <| c_sq fun k25 h25 => c_rg <| r_lb 0 Tryz.underlying30 rfl rfl rfl rfl rfl <| r_as rfl rfl <| r_nx h25 <| c_rt <| WE.blk_r <| WE.then_r ?_; rotate_left)
  exact WE.ret1 () rfl rfl rfl trivial Mem.drop
theorem code_nil (w0 : World) (m0 : List Res) : PureC Tryz.prog 8 [.nilIface] w0 m0 (.int .i64 0) := by
  refine Ct.of Tryz.func8 rfl (by kernel_rfl) rfl ?_
  (refine c_sq fun k3 h3 => c_rg <| r_as rfl rfl <| r_nx h3 <| c_sq fun k5 h5 => c_rg <| r_al (z := .int .i64 0) (cs := [.int .i64 0]) (fun _ => by kernel_rfl) rfl rfl (fun _ => ?_); refine r_nx h5 <| c_sq fun k8 h8 => c_bl <| c_sq fun k10 h10 => c_rg <| r_mv rfl rfl <| r_bk (.bool true) rfl rfl (fun _ => by kernel_rfl) rfl <| r_as rfl rfl <| r_nx h10 <| c_cT rfl <| c_sq fun k12 h12 => c_rg <| r_as rfl rfl <| r_nx h12 <| c_rt <| WE.blk_r <| WE.then_r ?_; rotate_left)
  exact WE.ret1 () rfl rfl rfl trivial Mem.drop
end Go.Proofs.YthnabbidlmihbaaGreatDoor

/- What All answers, and fail.Code of its error. -/
set_option linter.unusedVariables false
set_option linter.unusedSimpArgs false
namespace Go.Proofs.YthnabbidlmihbaaGreatDoor
open Go.RowKit Go.Gp

def sOf : Except Int ByteArray → ByteArray
  | .ok s => s
  | .error _ => ⟨#[]⟩
def eOf : Except Int ByteArray → List (Nat × ByteArray) → Value
  | .ok _, _ => .nilIface
  | .error n, L => ecv L n
def codeOf : Except Int ByteArray → Int
  | .ok _ => 0
  | .error n => n
theorem allV_eq (r : Except Int ByteArray) (L : List (Nat × ByteArray)) : allV r L = .tuple #[.string (sOf r), eOf r L] := by cases r <;> rfl
/-- The error can be read. -/
def ErR (w0 : World) (m : List Res) (r : Except Int ByteArray) (L : List (Nat × ByteArray)) : Prop := match r with
  | .ok _ => True
  | .error n => EcR w0 m L n
theorem ErR.own2 {w0 : World} {r m0 : List Res} (x : Except Int ByteArray) (L : List (Nat × ByteArray)) : ErR w0 ((allM x L ++ r) ++ m0) x L := by
  cases x with
  | ok _ => trivial
  | error n => exact EcR.own2 L
theorem ErR.skip {w0 : World} {a r m0 : List Res} {x : Except Int ByteArray} {L : List (Nat × ByteArray)} (h : ErR w0 (r ++ m0) x L) : ErR w0 ((a ++ r) ++ m0) x L := by
  cases x with
  | ok _ => trivial
  | error n => exact EcR.skip h
theorem ErR.cons {w0 : World} {m : List Res} {x : Except Int ByteArray} {L : List (Nat × ByteArray)} (h : ErR w0 m x L) (y : Res) : ErR w0 (y :: m) x L := by
  cases x with
  | ok _ => trivial
  | error n => exact EcR.cons h y
theorem codeE_spec (x : Except Int ByteArray) (L : List (Nat × ByteArray)) (w0 : World) (m0 : List Res) (h : ErR w0 m0 x L) (hE : Rd w0 m0 (some ⟨0, 0, none⟩) [errT]) :
    PureC Tryz.prog 8 [eOf x L] w0 m0 (.int .i64 (codeOf x)) := by
  cases x with
  | ok _ => exact code_nil w0 m0
  | error n => exact code_spec L n w0 m0 h hE
theorem codeOf_bd (l : List Int) : -2147483648 ≤ codeOf (allP l) ∧ codeOf (allP l) ≤ 2147483647 := by
  unfold allP
  split
  · simp [codeOf]
  · split
    · simp [codeOf]
    · split <;> simp [codeOf]
theorem codeOf_2 {x : Except Int ByteArray} (h : codeOf x = 2) : x = .error 2 := by
  cases x with
  | ok _ => cases h
  | error n => exact congrArg Except.error h
end Go.Proofs.YthnabbidlmihbaaGreatDoor

/- From a contract to the given row: what reads as it did, and the answer true. -/
namespace Go.Gp
open Go.ChangeShapes Go.WideShapes Go.ChangeAt Go.RowKit

section
variable {H : Type} {enc : TypeId × Value → H} {P : Program}

theorem trodAll_stays (hl : laidOutB P = true) {W W' : World} (hb : Below W.heap.size W W') {sp' : Nat → Bool} :
    ∀ {ts : List TypeId} {vs : List Value} {ds : List (DataW H)} {ps : List MemPlace}, (ts.all fun t => P.readableRec t && decide (t < P.types.size)) = true → (∀ p ∈ ps, p.block < W.heap.size) → (∀ p ∈ ps, sp' p.block = true) →
      DataW.TrodAll enc P W 0 (fun _ => true) true ts vs ds ps → DataW.TrodAll enc P W' 0 sp' true ts vs ds ps
  | [], _, _, _, _, _, _, h => by
    obtain ⟨rfl, rfl, rfl⟩ := trodAll_nil h
    exact rfl
  | t :: ts, _, _, _, ha, hlt, hsp, h => by
    obtain ⟨v, vs', d, ds', p, q, rfl, rfl, rfl, h1, h2⟩ := trodAll_cons h
    simp only [List.all_cons, Bool.and_eq_true, decide_eq_true_eq] at ha
    refine ⟨p, q, WideElems.Trod_stays hl ha.1.1 ha.1.2 h1 (fun x hx => hb.same (hlt x (by simp [hx]))) (fun x hx => hsp x (by simp [hx])), ?_, rfl⟩
    exact trodAll_stays hl hb ha.2 (fun x hx => hlt x (by simp [hx])) (fun x hx => hsp x (by simp [hx])) h2

/-- The call returned true, and nothing that was there has turned. -/
theorem post_true {f : Func} {s : ChangeSpec} {apart fresh handsOn : Bool} {W W' : World} {args : Array Value} {ds gs : List (DataW H)} {before : List MemPlace} {tb : TypeId}
    (hl : laidOutB P = true) (hp : (f.params.toList.all fun t => P.readableRec t && decide (t < P.types.size)) = true) (hv : s.vars = []) (hr : f.resultTypes = #[tb]) (htb : P.underlying tb = some .bool)
    (hW : DataW.Whole enc P f.params.toList s.vars apart W args.toList ds gs before) (hb : Below W.heap.size W W')
    (hs1 : (s.fn H (ds ++ gs)).results = [.lit (.bool true)]) (hs2 : (s.fn H (ds ++ gs)).args = ds) (hs3 : (s.fn H (ds ++ gs)).vars = []) :
    s.post enc P f apart fresh handsOn false W args (.bool true) W' := by
  have hlt := hW.lt
  have hW0 := hW
  obtain ⟨p, q, h1, h2, e, hz, hn⟩ := hW
  rw [hv] at h2
  obtain ⟨rfl, rfl⟩ := trodVars_none h2
  rw [List.append_nil] at e
  subst e
  refine ⟨ds, [], before, [], before, [], hW0, ?_, ?_, ?_, World.keptBut_mono (fun x hx => ⟨hx, .inr (.inl hx)⟩) (hb.frame _), fun h => by cases h⟩
  · rw [hr, hs1]
    exact trodAll_mk1 (shut_bool htb true)
  · rw [hs2]
    exact trodAll_stays hl hb hp hlt (fun x hx => by simpa using hlt x hx) h1
  · rw [hs3, hv]
    rfl

/-- A slice of runes is opened. -/
theorem open_runes {t e : TypeId} {W : World} {v : Value} {d : DataW H} {ps : List MemPlace} (ht : P.underlying t = some (.slice e)) (he : P.underlying e = some (.int .i32)) (hc : P.cellsOf e = 1) (hf : Value.okWide P W .any 0 t v)
    (h : DataW.Trod enc P W 0 (fun _ => true) true t v d ps) : ∃ (A : Option Addr) (c : Nat) (l : List Int), v = .slice A l.length c ∧ Rd W [] A (l.map (.int .i32 ·)) ∧ (∀ n ∈ l, -2147483648 ≤ n ∧ n ≤ 2147483647) ∧ l.length ≤ c ∧ c ≤ maxLen := by
  obtain ⟨A, n, c, rfl⟩ := okWide_slice ht hf
  obtain ⟨fuel, hd⟩ := h
  rcases open_ints ht he hc hd with ⟨h1, _⟩ | ⟨a, len, cap, zs, h1, _, hl, hm, hz, _, hcell, hwf⟩
  · simp [Value.cells] at h1
    obtain ⟨rfl, rfl, rfl⟩ := h1
    exact ⟨none, 0, [], rfl, Rd.nil _, by simp, by simp, by simp⟩
  · simp [Value.cells] at h1
    obtain ⟨rfl, rfl, rfl⟩ := h1
    rw [if_pos rfl] at hz
    refine ⟨some a, c, zs.take n, by simp [hz, hl], ?_, fun i hi => ?_, by simp [hz, hl], hm⟩
    · unfold Rd
      intro w hw j u hj
      refine ⟨a, rfl, ?_⟩
      have hj' := (List.getElem?_eq_some_iff.1 hj)
      obtain ⟨hj1, hj2⟩ := hj'
      simp at hj1
      have hcj := hcell j (by omega)
      have hblk : (a.add j).block < W.heap.size := World.block_lt_of_cell? W _ hcj
      rw [hw.below.cell hblk, hcj]
      rw [← hj2]
      have : j < zs.length := by omega
      simp [this]
    · have := hwf i (List.mem_of_mem_take hi)
      simp [Lit.wf] at this
      exact this
end

/-- A cell that is known at the start can be read. -/
theorem rd_of_cell {W : World} {g : Nat} {v : Value} (h : W.cell? ⟨g, 0, none⟩ = some v) : Rd W [] (some ⟨g, 0, none⟩) [v] := by
  unfold Rd
  intro w hw j u hj
  obtain ⟨hj1, hj2⟩ := List.getElem?_eq_some_iff.1 hj
  have h0 : j = 0 := by simpa using hj1
  subst h0
  refine ⟨_, rfl, ?_⟩
  rw [Addr.add_zero', hw.below.cell (World.block_lt_of_cell? W _ h), h]
  exact congrArg some hj2

/-- A contract, as the row wants it. -/
theorem PureC.calls {P : Program} {f : FuncId} {args : List Value} {W : World} {v : Value} (h : PureC P f args W [] v) : Calls P f args.toArray W fun e w' => e = .returned v ∧ Below W.heap.size W w' := by
  unfold PureC Ct at h
  refine (h.2 W (Mem.refl W)).mono fun e w' hh => ?_
  unfold sp at hh
  obtain ⟨_, _, he, hm⟩ := hh
  exact ⟨he, hm.below⟩
end Go.Gp
