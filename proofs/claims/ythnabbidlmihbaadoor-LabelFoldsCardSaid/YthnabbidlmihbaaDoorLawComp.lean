/- Letters and marks put together: fold.Compose and the document's are the same: the plain law. -/
import Derived.Test.YthnabbidlmihbaaDoorRefFold
namespace Go.Proofs.YthnabbidlmihbaaDoor
open Go.RowKit Go.Gp

theorem rMadeF_no {c m : Int} (h : ∀ i, i < 27 → ¬ (c = rOf.getD i 0 ∧ m = rBy.getD i 0)) : ∀ f i, i + f ≤ 27 → rMadeF c m i f = 0 := by
  intro f
  induction f with
  | zero => intro i _; rfl
  | succ f ih =>
    intro i hi
    rw [rMadeF, if_neg (h i (by omega)), ih (i + 1) (by omega)]
theorem rOf_in : ∀ i : Fin 27, rOf.getD i.1 0 = 97 ∨ rOf.getD i.1 0 = 99 ∨ rOf.getD i.1 0 = 101 ∨ rOf.getD i.1 0 = 105 ∨ rOf.getD i.1 0 = 110 ∨ rOf.getD i.1 0 = 111 ∨ rOf.getD i.1 0 = 117 ∨ rOf.getD i.1 0 = 121 := by decide
theorem rBy_in : ∀ i : Fin 27, rBy.getD i.1 0 = 768 ∨ rBy.getD i.1 0 = 769 ∨ rBy.getD i.1 0 = 770 ∨ rBy.getD i.1 0 = 771 ∨ rBy.getD i.1 0 = 776 ∨ rBy.getD i.1 0 = 778 ∨ rBy.getD i.1 0 = 807 := by decide
theorem made_law (u c : Int) : rMade u c = pairR u c := by
  by_cases hu : u = 97 ∨ u = 99 ∨ u = 101 ∨ u = 105 ∨ u = 110 ∨ u = 111 ∨ u = 117 ∨ u = 121
  · by_cases hc : c = 768 ∨ c = 769 ∨ c = 770 ∨ c = 771 ∨ c = 776 ∨ c = 778 ∨ c = 807
    · rcases hu with rfl | rfl | rfl | rfl | rfl | rfl | rfl | rfl <;> rcases hc with rfl | rfl | rfl | rfl | rfl | rfl | rfl <;> decide +kernel
    · have e1 : rMade u c = 0 := rMadeF_no (fun i hi h => by have := rBy_in ⟨i, hi⟩; dsimp only at this; omega) 27 0 (by omega)
      have e2 : pairR u c = 0 := by
        have hm : markAt c = -1 := by
          unfold markAt
          rw [if_neg (by omega), if_neg (by omega), if_neg (by omega), if_neg (by omega), if_neg (by omega), if_neg (by omega), if_neg (by omega)]
        unfold pairR
        rw [if_pos (by omega)]
      rw [e1, e2]
  · have e1 : rMade u c = 0 := rMadeF_no (fun i hi h => by have := rOf_in ⟨i, hi⟩; dsimp only at this; omega) 27 0 (by omega)
    have e2 : pairR u c = 0 := by
      have hm : madeL u = [0, 0, 0, 0, 0, 0, 0] := by
        unfold madeL
        rw [if_neg (by omega), if_neg (by omega), if_neg (by omega), if_neg (by omega), if_neg (by omega), if_neg (by omega), if_neg (by omega), if_neg (by omega)]
      have hb := markAt_bd c
      unfold pairR
      rw [hm]
      split
      · rfl
      · generalize (markAt c / 2).toNat = k
        rcases k with _ | _ | _ | _ | _ | _ | _ | k <;> rfl
    rw [e1, e2]
theorem foldl_rcomp : ∀ (n : Nat) (l s : List Int), l.length = n → (∀ x r, l = x :: r → addR s x = s ++ [x]) → l.foldl addR s = s ++ rComp l := by
  intro n
  induction n using Nat.strongRecOn with
  | _ n ih =>
    intro l s hl hs
    match l, hl, hs with
    | [], _, _ => simp [rComp]
    | [x], _, hs => simp [rComp, hs x [] rfl]
    | x :: y :: r, hl, hs =>
      have h1 := hs x (y :: r) rfl
      simp only [List.length_cons] at hl
      rw [List.foldl_cons, h1, rComp]
      by_cases hp : pairR x y ≠ 0
      · rw [List.foldl_cons, addR_end, if_pos hp, if_pos (by rw [made_law]; exact hp), made_law]
        rw [ih r.length (by omega) r (s ++ [pairR x y]) rfl (fun z t _ => by
          have hq := pair_props (pairR x y) z
          have hb := pair_props x y
          rw [addR_end, if_neg (by omega)])]
        simp
      · rw [if_neg (by rw [made_law]; exact hp)]
        rw [ih (y :: r).length (by simp; omega) (y :: r) (s ++ [x]) rfl (fun z t e => by
          injection e with e1 e2
          subst e1
          rw [addR_end, if_neg hp])]
        simp
theorem comp_law (l : List Int) : rComp l = compR l := by
  have := foldl_rcomp l.length l [] rfl (fun x r _ => rfl)
  rw [List.nil_append] at this
  exact this.symm
end Go.Proofs.YthnabbidlmihbaaDoor
