/- More operations: min, max, cap, slices of strings, equality of strings. -/
import Derived.Test.YthnabbidlmihbaaExt
import Derived.Test.YthnabbidlmihbaaMore
import Derived.Lib.MinMax
set_option linter.unusedVariables false
namespace Go.Gp
open Go.RowKit
section
variable {C : Cx} {Q : Po} {l : List (Nat × Value)} {m : List Res} {ops : Array Oper} {rest : List Oper} {ty : TypeId} {pos : String} {af : Array Edge} {g : Option (Nat × Bool)} {b : Bool} {d : Nat} {v u : Value} {x y z : Operand} {t t' t2 : TypeId} {k k' : IntKind} {p q : Int}
theorem r_mx (hx : opv l x = some (.int k p)) (hy : opv l y = some (.int k' q)) (h : okk ops l g d C.n = true) (c : WX b C Q ops rest ((d, .int k (max p q)) :: l) m) :
    WX b C Q ops (⟨some d, .call { callee := .builtin .max, args := #[x, y], argTypes := #[t, t'] }, ty, pos, af, g⟩ :: rest) l m :=
  WX.q (fun ev hev w _ => by simp [execOp, resolve, invoke, builtin, hev x _ hx, hev y _ hy, Go.Lib.run_max_ints]) rfl (okk_1 h) (okk_2 h) rfl c
theorem r_mn (hx : opv l x = some (.int k p)) (hy : opv l y = some (.int k' q)) (h : okk ops l g d C.n = true) (c : WX b C Q ops rest ((d, .int k (min p q)) :: l) m) :
    WX b C Q ops (⟨some d, .call { callee := .builtin .min, args := #[x, y], argTypes := #[t, t'] }, ty, pos, af, g⟩ :: rest) l m :=
  WX.q (fun ev hev w _ => by simp [execOp, resolve, invoke, builtin, hev x _ hx, hev y _ hy, Go.Lib.run_min_ints]) rfl (okk_1 h) (okk_2 h) rfl c
theorem Qv.cap {e : TypeId} {A : Option Addr} {n c : Nat} {dd : Option Nat} (ht : C.P.underlying t = some (.slice e)) (hx : opv l x = some (.slice A n c)) : Qv C l m ⟨dd, .call { callee := .builtin .cap, args := #[x], argTypes := #[t] }, ty, pos, af, g⟩ (.int .i64 c) := fun ev hev w _ => by
  simp [execOp, resolve, invoke, builtin, hev x _ hx, Builtin.cap_, run_underlying ht, goInt]
theorem r_cp {e : TypeId} {A : Option Addr} {n c : Nat} (ht : C.P.underlying t = some (.slice e)) (hx : opv l x = some (.slice A n c)) (h : okk ops l g d C.n = true) (cc : WX b C Q ops rest ((d, .int .i64 c) :: l) m) :
    WX b C Q ops (⟨some d, .call { callee := .builtin .cap, args := #[x], argTypes := #[t] }, ty, pos, af, g⟩ :: rest) l m := WX.q (Qv.cap ht hx) rfl (okk_1 h) (okk_2 h) rfl cc
/-- s[i:j] of a string. -/
theorem Qv.sliceStr {s : ByteArray} {i j : Int} {dd : Option Nat} (ht : C.P.underlying t = some .string) (hx : opv l x = some (.string s)) (hy : opv l y = some (.int k i)) (hz : opv l z = some (.int k' j)) (h0 : 0 ≤ i) (h1 : i ≤ j) (h2 : j ≤ s.size) :
    Qv C l m ⟨dd, .slice t x (some y) (some z) none, ty, pos, af, g⟩ (.string (s.extract i.toNat j.toNat)) := fun ev hev w _ => by
  have := run_slice_string (P := C.P) w t s k k' i j ht h0 h1 h2
  simp [execOp, hev x _ hx, hev y _ hy, hev z _ hz, Instr.sliceAt, run_underlying ht, this]
theorem run_slice_to {P : Program} (w : World) (t : TypeId) (s : ByteArray) (k : IntKind) (j : Int) (h : P.underlying t = some .string) (h1 : 0 ≤ j) (h2 : j ≤ s.size) :
    (Instr.slice t (.string s) none (some (.int k j)) none).run P w = .ok (.string (s.extract 0 j.toNat)) w := by
  have hj : 0 ≤ j ∧ j ≤ (s.size : Int) := ⟨h1, h2⟩
  simp [Instr.slice, Instr.sliceBounds, Instr.sliceBound, asIntOf, run_underlying h, hj]
theorem run_slice_from {P : Program} (w : World) (t : TypeId) (s : ByteArray) (k : IntKind) (i : Int) (h : P.underlying t = some .string) (h0 : 0 ≤ i) (h2 : i ≤ s.size) :
    (Instr.slice t (.string s) (some (.int k i)) none none).run P w = .ok (.string (s.extract i.toNat s.size)) w := by
  have hi : 0 ≤ i ∧ i ≤ (s.size : Int) := ⟨h0, h2⟩
  simp [Instr.slice, Instr.sliceBounds, Instr.sliceBound, asIntOf, run_underlying h, hi]
theorem r_sS {s : ByteArray} {i j : Int} (ht : C.P.underlying t = some .string) (hx : opv l x = some (.string s)) (hy : opv l y = some (.int k i)) (hz : opv l z = some (.int k' j)) (h0 : 0 ≤ i) (h1 : i ≤ j) (h2 : j ≤ s.size) (h : okk ops l g d C.n = true) (c : WX b C Q ops rest ((d, .string (s.extract i.toNat j.toNat)) :: l) m) :
    WX b C Q ops (⟨some d, .slice t x (some y) (some z) none, ty, pos, af, g⟩ :: rest) l m := WX.q (Qv.sliceStr ht hx hy hz h0 h1 h2) rfl (okk_1 h) (okk_2 h) rfl c
theorem r_sT {s : ByteArray} {j : Int} (ht : C.P.underlying t = some .string) (hx : opv l x = some (.string s)) (hz : opv l z = some (.int k' j)) (h1 : 0 ≤ j) (h2 : j ≤ s.size) (h : okk ops l g d C.n = true) (c : WX b C Q ops rest ((d, .string (s.extract 0 j.toNat)) :: l) m) :
    WX b C Q ops (⟨some d, .slice t x none (some z) none, ty, pos, af, g⟩ :: rest) l m :=
  WX.q (fun ev hev w _ => by simp [execOp, hev x _ hx, hev z _ hz, Instr.sliceAt, run_underlying ht, run_slice_to w t s k' j ht h1 h2]) rfl (okk_1 h) (okk_2 h) rfl c
theorem r_sF {s : ByteArray} {i : Int} (ht : C.P.underlying t = some .string) (hx : opv l x = some (.string s)) (hy : opv l y = some (.int k i)) (h0 : 0 ≤ i) (h2 : i ≤ s.size) (h : okk ops l g d C.n = true) (c : WX b C Q ops rest ((d, .string (s.extract i.toNat s.size)) :: l) m) :
    WX b C Q ops (⟨some d, .slice t x (some y) none none, ty, pos, af, g⟩ :: rest) l m :=
  WX.q (fun ev hev w _ => by simp [execOp, hev x _ hx, hev y _ hy, Instr.sliceAt, run_underlying ht, run_slice_from w t s k i ht h0 h2]) rfl (okk_1 h) (okk_2 h) rfl c
/-- Equality of strings. -/
theorem r_seq {s s' : ByteArray} (hx : opv l x = some (.string s)) (hy : opv l y = some (.string s')) (hgd : ∀ w, (eqGuard .eql t x y (.string s) (.string s')).run C.P w = .ok () w) (h : okk ops l g d C.n = true) (c : WX b C Q ops rest ((d, .bool (decide (s = s'))) :: l) m) :
    WX b C Q ops (⟨some d, .binOp .eql t x y t', ty, pos, af, g⟩ :: rest) l m :=
  r_bk (.bool (decide (s = s'))) hx hy (fun w => by
    have e : (s.toList == s'.toList) = decide (s = s') := by
      by_cases hs : s = s'
      · subst hs; simp
      · have : s.toList ≠ s'.toList := fun he => hs (by
          have e1 := congrArg List.toArray he
          cases s; cases s'
          simp_all [ByteArray.toList_eq])
        simp [hs, this]
    simp [hgd w, binOp_string_eql, e]) h c
/-- A conversion that looks at memory. -/
theorem r_cm {r : Value} (hx : opv l x = some v) (hr : ∀ w, Mem C.w0 (m ++ C.m0) w → (convert t t2 v).run C.P w = .ok r w) (h : okk ops l g d C.n = true) (c : WX b C Q ops rest ((d, r) :: l) m) : WX b C Q ops (⟨some d, .convert t t2 x, ty, pos, af, g⟩ :: rest) l m :=
  WX.q (fun ev hev w hw => by simp [execOp, hev x _ hx, hr w hw]) rfl (okk_1 h) (okk_2 h) rfl c
theorem Mem.shape {w0 w : World} {m : List Res} {bb : Nat} {cs : List Value} {e : TypeId} (hw : Mem w0 m w) (i : Nat) (hi : m[i]? = some (.blk bb cs e)) : w.shape? bb = some (e, cs.length) := by
  have h := (hw.all i _ hi).2
  simp [World.shape?, h]
/-- A resource is given up, whatever became of its block. -/
theorem Mem.eat {w0 w w' : World} {r : Res} {m : List Res} (hw : Mem w0 (r :: m) w) (hg : w.grownBy w' r.block) : Mem w0 m w' := by
  refine ⟨hw.below.grown hg hw.bnd (fun k hk => (at_lt (hw.all 0 r rfl) k hk).1), fun i s hi => ?_, fun i j s t hij hi hj => hw.apart (i + 1) (j + 1) s t (by omega) hi hj⟩
  exact res_kept (hw.all (i + 1) s hi) hg (fun k hk e => hw.apart 0 (i + 1) r s (by omega) rfl hi k e hk)
end
end Go.Gp
