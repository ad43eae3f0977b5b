/- A list of runes, by its own numbers. -/
import Derived.Test.YthnabbidlmihbaaFold
namespace Go.Proofs.Ythnabbidlmihbaa
open Go.RowKit Go.Gp
theorem R32.of_all {l : List Int} (h : l.all (fun c => decide (-2147483648 ≤ c) && decide (c ≤ 2147483647)) = true) : R32 l := by
  intro i hi
  have h2 := List.all_eq_true.1 h (l.getD i 0) (by simp [hi])
  simp only [Bool.and_eq_true, decide_eq_true_eq] at h2
  exact h2
end Go.Proofs.Ythnabbidlmihbaa
