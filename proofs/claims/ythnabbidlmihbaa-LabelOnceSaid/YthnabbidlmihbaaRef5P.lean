/- What the document says of single code points, in plain Lean. -/
import Derived.Test.YthnabbidlmihbaaMap
namespace Go.Proofs.Ythnabbidlmihbaa
open Go.RowKit Go.Gp

/-- Is a number a scalar? -/
abbrev ScP (c : Int) : Prop := (0 ≤ c ∧ c ≤ 1114111) ∧ (c < 55296 ∨ c > 57343)
abbrev Bar1 (c : Int) : Prop := ¬ ScP c ∨ (128 ≤ c ∧ c ≤ 160) ∨ c = 5760 ∨ (8192 ≤ c ∧ c ≤ 8202) ∨ c = 8206 ∨ c = 8207
abbrev Bar2 (c : Int) : Prop := (8232 ≤ c ∧ c ≤ 8239) ∨ c = 8287 ∨ (8294 ≤ c ∧ c ≤ 8297) ∨ (57344 ≤ c ∧ c ≤ 63743) ∨ (64976 ≤ c ∧ c ≤ 65007) ∨ (65529 ≤ c ∧ c ≤ 65535) ∨ 917504 ≤ c
def barR (c : Int) : Bool := decide (Bar1 c ∨ Bar2 c)

theorem barR_t {c : Int} (h : Bar1 c ∨ Bar2 c) : barR c = true := decide_eq_true h
theorem barR_f {c : Int} (h : ¬ (Bar1 c ∨ Bar2 c)) : barR c = false := decide_eq_false h
/-- What the document maps a code point to. -/
def refMap1 (c : Int) : List Int :=
  if (65 ≤ c ∧ c ≤ 90) ∨ (192 ≤ c ∧ c ≤ 222 ∧ c ≠ 215) ∨ (913 ≤ c ∧ c ≤ 937 ∧ c ≠ 930) ∨ (1040 ≤ c ∧ c ≤ 1071) then [c + 32]
  else if 1024 ≤ c ∧ c ≤ 1039 then [c + 80] else if c = 7838 then [115, 115] else [c]
def refMap (c : Int) : List Int × Bool :=
  if barR c = true then ([], false) else if c = 173 ∨ c = 8203 ∨ c = 8288 ∨ c = 65279 then ([], true) else if c = 12290 ∨ c = 65377 then ([46], true)
  else (refMap1 (if 65281 ≤ c ∧ c ≤ 65374 then c - 65248 else c), true)
end Go.Proofs.Ythnabbidlmihbaa
