/- What fold.Map and the document's Map answer is the same: the plain law. -/
import Derived.Test.YthnabbidlmihbaaRef5P
namespace Go.Proofs.Ythnabbidlmihbaa
open Go.RowKit Go.Gp

theorem do_all (c : Int) : (∃ i, i < 28 ∧ inSp (sp i) c = true ∧ doOf c = (sp i).2.2) ∨ ((∀ j, j < 28 → inSp (sp j) c = false) ∧ doOf c = 0) := by
  by_cases h : ∀ j, j < 28 → inSp (sp j) c = false
  · exact .inr ⟨h, doOf_no h⟩
  · rcases doOf_cases c with h1 | h1
    · exact .inl h1
    · refine .inr ⟨fun j hj => ?_, h1⟩
      cases hb : inSp (sp j) c with
      | false => rfl
      | true =>
        exfalso
        have : ∀ i, i < 28 → inSp (sp i) c = true → ∃ k, k < 28 ∧ inSp (sp k) c = true ∧ ∀ j, j < k → inSp (sp j) c = false := by
          intro i
          induction i using Nat.strongRecOn with
          | _ i ih =>
            intro hi h
            by_cases hj : ∃ j, j < i ∧ inSp (sp j) c = true
            · obtain ⟨j, hj, hj'⟩ := hj
              exact ih j hj (by omega) hj'
            · exact ⟨i, hi, h, fun j hj1 => by
                cases hb : inSp (sp j) c with
                | false => rfl
                | true => exact absurd ⟨j, hj1, hb⟩ hj⟩
        obtain ⟨k, k1, k2, k3⟩ := this j hj hb
        have e := doOf_at k1 k3 k2
        rw [h1] at e
        have h' : k = 0 ∨ k = 1 ∨ k = 2 ∨ k = 3 ∨ k = 4 ∨ k = 5 ∨ k = 6 ∨ k = 7 ∨ k = 8 ∨ k = 9 ∨ k = 10 ∨ k = 11 ∨ k = 12 ∨ k = 13 ∨ k = 14 ∨ k = 15 ∨ k = 16 ∨ k = 17 ∨ k = 18 ∨ k = 19 ∨ k = 20 ∨ k = 21 ∨ k = 22 ∨ k = 23 ∨ k = 24 ∨ k = 25 ∨ k = 26 ∨ k = 27 := by omega
        rcases h' with rfl | rfl | rfl | rfl | rfl | rfl | rfl | rfl | rfl | rfl | rfl | rfl | rfl | rfl | rfl | rfl | rfl | rfl | rfl | rfl | rfl | rfl | rfl | rfl | rfl | rfl | rfl | rfl
        all_goals exact absurd e (by decide)

theorem rb_bar {c : Int} (h : Bar1 c ∨ Bar2 c) : refMap c = ([], false) := by simp [refMap, barR_t h]
theorem rb_drop {c : Int} (h : ¬ (Bar1 c ∨ Bar2 c)) (h2 : c = 173 ∨ c = 8203 ∨ c = 8288 ∨ c = 65279) : refMap c = ([], true) := by
  rw [refMap, barR_f h, if_neg (by decide), if_pos h2]
theorem rb_dot {c : Int} (h : ¬ (Bar1 c ∨ Bar2 c)) (h2 : ¬ (c = 173 ∨ c = 8203 ∨ c = 8288 ∨ c = 65279)) (h3 : c = 12290 ∨ c = 65377) : refMap c = ([46], true) := by
  rw [refMap, barR_f h, if_neg (by decide), if_neg h2, if_pos h3]
theorem rb_wide {c : Int} (h : ¬ (Bar1 c ∨ Bar2 c)) (h2 : ¬ (c = 173 ∨ c = 8203 ∨ c = 8288 ∨ c = 65279)) (h3 : ¬ (c = 12290 ∨ c = 65377)) (h4 : 65281 ≤ c ∧ c ≤ 65374) : refMap c = (refMap1 (c - 65248), true) := by
  rw [refMap, barR_f h, if_neg (by decide), if_neg h2, if_neg h3, if_pos h4]
theorem rb_plain {c : Int} (h : ¬ (Bar1 c ∨ Bar2 c)) (h2 : ¬ (c = 173 ∨ c = 8203 ∨ c = 8288 ∨ c = 65279)) (h3 : ¬ (c = 12290 ∨ c = 65377)) (h4 : ¬ (65281 ≤ c ∧ c ≤ 65374)) : refMap c = (refMap1 c, true) := by
  rw [refMap, barR_f h, if_neg (by decide), if_neg h2, if_neg h3, if_neg h4]
theorem r1_up {c : Int} (h : (65 ≤ c ∧ c ≤ 90) ∨ (192 ≤ c ∧ c ≤ 222 ∧ c ≠ 215) ∨ (913 ≤ c ∧ c ≤ 937 ∧ c ≠ 930) ∨ (1040 ≤ c ∧ c ≤ 1071)) : refMap1 c = [c + 32] := by rw [refMap1, if_pos h]
theorem r1_up2 {c : Int} (h : 1024 ≤ c ∧ c ≤ 1039) : refMap1 c = [c + 80] := by rw [refMap1, if_neg (by omega), if_pos h]
theorem r1_no {c : Int} (h : ¬ ((65 ≤ c ∧ c ≤ 90) ∨ (192 ≤ c ∧ c ≤ 222 ∧ c ≠ 215) ∨ (913 ≤ c ∧ c ≤ 937 ∧ c ≠ 930) ∨ (1040 ≤ c ∧ c ≤ 1071))) (h2 : ¬ (1024 ≤ c ∧ c ≤ 1039)) (h3 : c ≠ 7838) : refMap1 c = [c + 0] := by rw [refMap1, if_neg h, if_neg h2, if_neg h3, Int.add_zero]

theorem map1_bar (c : Int) : map1 c (-1) = ([], false) := rfl
theorem map1_drop (c : Int) : map1 c (-2) = ([], true) := rfl
theorem map1_dot (c : Int) : map1 c (-3) = ([46], true) := rfl
theorem mapP_of {c d : Int} (h : doOf c = d) (hd : d ≠ -4) : mapP c = map1 c d := by rw [mapP, h, if_neg hd]

set_option maxHeartbeats 1000000 in
theorem map_law (c : Int) (h1 : -2147483648 ≤ c) (h2 : c ≤ 2147483647) : mapP c = refMap c := by
  rcases do_all c with ⟨k, hk, hi, e⟩ | ⟨hn, e⟩
  · have h' : k = 0 ∨ k = 1 ∨ k = 2 ∨ k = 3 ∨ k = 4 ∨ k = 5 ∨ k = 6 ∨ k = 7 ∨ k = 8 ∨ k = 9 ∨ k = 10 ∨ k = 11 ∨ k = 12 ∨ k = 13 ∨ k = 14 ∨ k = 15 ∨ k = 16 ∨ k = 17 ∨ k = 18 ∨ k = 19 ∨ k = 20 ∨ k = 21 ∨ k = 22 ∨ k = 23 ∨ k = 24 ∨ k = 25 ∨ k = 26 ∨ k = 27 := by omega
    rcases h' with rfl | rfl | rfl | rfl | rfl | rfl | rfl | rfl | rfl | rfl | rfl | rfl | rfl | rfl | rfl | rfl | rfl | rfl | rfl | rfl | rfl | rfl | rfl | rfl | rfl | rfl | rfl | rfl
    all_goals (simp [inSp, sp, spanList] at hi e)
    all_goals
      first
      | (rw [mapP_of e (by decide), rb_bar (by omega)]; rfl)
      | (rw [mapP_of e (by decide), rb_drop (by omega) (by omega)]; rfl)
      | (rw [mapP_of e (by decide), rb_dot (by omega) (by omega) (by omega)]; rfl)
      | (rw [mapP_of e (by decide), rb_plain (by omega) (by omega) (by omega) (by omega), r1_up (by omega)]; rfl)
      | (rw [mapP_of e (by decide), rb_plain (by omega) (by omega) (by omega) (by omega), r1_up2 (by omega)]; rfl)
      | (rw [mapP_of e (by decide), show c = 7838 by omega]; decide +kernel)
      | skip
    · rw [rb_wide (by omega) (by omega) (by omega) (by omega), mapP, e, if_pos rfl, small_do (by omega) (by omega)]
      by_cases hq : c - 65248 ≤ 90 ∧ 65 ≤ c - 65248
      · rw [if_pos hq, r1_up (by omega)]; rfl
      · rw [if_neg hq, r1_no (by omega) (by omega) (by omega)]; rfl
  · have g : ∀ j, j < 28 → ¬ ((sp j).1 ≤ c ∧ c ≤ (sp j).2.1) := fun j hj h => by
      have := hn j hj
      simp [inSp, h.1, h.2] at this
    have g0 := g 0 (by decide)
    have g1 := g 1 (by decide)
    have g2 := g 2 (by decide)
    have g3 := g 3 (by decide)
    have g4 := g 4 (by decide)
    have g5 := g 5 (by decide)
    have g6 := g 6 (by decide)
    have g7 := g 7 (by decide)
    have g8 := g 8 (by decide)
    have g9 := g 9 (by decide)
    have g10 := g 10 (by decide)
    have g11 := g 11 (by decide)
    have g12 := g 12 (by decide)
    have g13 := g 13 (by decide)
    have g14 := g 14 (by decide)
    have g15 := g 15 (by decide)
    have g16 := g 16 (by decide)
    have g17 := g 17 (by decide)
    have g18 := g 18 (by decide)
    have g19 := g 19 (by decide)
    have g20 := g 20 (by decide)
    have g21 := g 21 (by decide)
    have g22 := g 22 (by decide)
    have g23 := g 23 (by decide)
    have g24 := g 24 (by decide)
    have g25 := g 25 (by decide)
    have g26 := g 26 (by decide)
    have g27 := g 27 (by decide)
    simp only [sp, spanList, List.getD_eq_getElem?_getD, List.getElem?_cons_zero, List.getElem?_cons_succ, Option.getD_some] at g0 g1 g2 g3 g4 g5 g6 g7 g8 g9 g10 g11 g12 g13 g14 g15 g16 g17 g18 g19 g20 g21 g22 g23 g24 g25 g26 g27
    clear hn g
    rw [mapP_of e (by decide), rb_plain (by omega) (by omega) (by omega) (by omega), r1_no (by omega) (by omega) (by omega)]
    rfl
end Go.Proofs.Ythnabbidlmihbaa
