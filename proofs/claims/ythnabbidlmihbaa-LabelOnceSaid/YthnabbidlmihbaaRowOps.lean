/- Slices of slices, copy, append of zeros: a row of cells laid open; the rules of the walk. -/
import Derived.Test.YthnabbidlmihbaaOps2
import Derived.Test.YthnabbidlmihbaaHeld
import Derived.Laws.CopyRow
import Derived.Lib.AppendZerosOnto
import Derived.Lib.Overlaps
set_option linter.unusedVariables false
namespace Go.Gp
open Go.RowKit
theorem addr_add (g k : Nat) : (⟨g, 0, none⟩ : Addr).add k = ⟨g, k, none⟩ := by
  by_cases h : k = 0
  · subst h; simp [Addr.add]
  · simp [Addr.add, h]
theorem addr_add2 (g o k : Nat) : (⟨g, o, none⟩ : Addr).add k = ⟨g, o + k, none⟩ := by
  by_cases h : k = 0
  · subst h; simp [Addr.add]
  · simp [Addr.add, h]
section
variable {C : Cx} {Q : Po} {l : List (Nat × Value)} {m : List Res} {ops : Array Oper} {rest : List Oper} {ty : TypeId} {pos : String} {af : Array Edge} {g : Option (Nat × Bool)} {b : Bool} {d : Nat} {v u : Value} {x y z : Operand} {t t' t2 : TypeId} {k k' : IntKind} {dd : Option Nat}
/-- A slice that the call owns is laid open. -/
theorem WX.open (i : Nat) {A : Option Addr} {c n : Nat} {xs : List Value} {e : TypeId} (hi : m[i]? = some (.own A c n xs e 1)) (hn : 0 < n) (h : ∀ (gg : Nat) (cur : List Value), A = some ⟨gg, 0, none⟩ → cur.length = c → cur.take n = xs → n ≤ c → c ≤ maxLen → WX false C Q ops rest l (m.set i (.blk gg cur e))) : WX false C Q ops rest l m := by
  have hlt : i < m.length := (List.getElem?_eq_some_iff.1 hi).1
  have hu : ∀ a w, C.St l m a w → ∃ gg cur, A = some ⟨gg, 0, none⟩ ∧ cur.length = c ∧ cur.take n = xs ∧ n ≤ c ∧ c ≤ maxLen ∧ C.St l (m.set i (.blk gg cur e)) a w := fun a w hs => by
    have hi' : (m ++ C.m0)[i]? = some (.own A c n xs e 1) := by rw [List.getElem?_append_left hlt]; exact hi
    have hown : w.ownsRow C.w0.heap.size e 1 (.slice A n c) n xs := hs.2.all i _ hi'
    rcases hown.2 with ⟨_, h0⟩ | ⟨gg, cap, cur, hv, hb, hg, hnc, hcm, hcs, htake⟩
    · omega
    · injection hv with h1 h2 h3
      subst h3
      refine ⟨gg, cur.toList, h1, by simpa using hcs, by simpa using htake, hnc, hcm, hs.1, ?_⟩
      rw [← List.set_append_left _ _ hlt]
      refine hs.2.upd hi' ⟨rfl, rfl, rfl, Nat.le_refl _, fun _ _ _ => rfl⟩ ⟨hb, by simpa using hg⟩ (fun k hk => .inl ?_)
      simp only [Res.block] at hk ⊢
      rw [h1]
      exact hk
  unfold WX WL at h ⊢
  intro a w hs
  obtain ⟨gg, cur, h1, h2, h3, h4, h5, hs'⟩ := hu a w hs
  exact h gg cur h1 h2 h3 h4 h5 a w hs'
/-- .. and shut again. -/
theorem Mem.shut {w0 w : World} {m0 : List Res} (i : Nat) {gg c n : Nat} {cur : List Value} {e : TypeId} (hi : m[i]? = some (.blk gg cur e)) (hc : cur.length = c) (hn : n ≤ c) (hm : c ≤ maxLen) (hw : Mem w0 (m ++ m0) w) : Mem w0 (m.set i (.own (some ⟨gg, 0, none⟩) c n (cur.take n) e 1) ++ m0) w := by
  have hlt : i < m.length := (List.getElem?_eq_some_iff.1 hi).1
  have hi' : (m ++ m0)[i]? = some (.blk gg cur e) := by rw [List.getElem?_append_left hlt]; exact hi
  have h := hw.all i _ hi'
  rw [← List.set_append_left _ _ hlt]
  refine hw.upd hi' ⟨rfl, rfl, rfl, Nat.le_refl _, fun _ _ _ => rfl⟩ ?_ (fun k hk => .inl hk)
  refine ⟨by simp; omega, .inr ⟨gg, c, cur.toArray, rfl, h.1, h.2, hn, hm, by simpa using hc, by simp⟩⟩
theorem Qv.slFrom {A : Option Addr} {n c : Nat} {i : Int} (ht : C.P.underlying t = some (.slice (C.P.elem t))) (hz : ∀ w, (sizeOf (C.P.elem t)).run C.P w = .ok 1 w) (hx : opv l x = some (.slice A n c)) (hy : opv l y = some (.int k i)) (h0 : 0 ≤ i) (h1 : i ≤ n) :
    Qv C l m ⟨dd, .slice t x (some y) none none, ty, pos, af, g⟩ (sliced A i.toNat n c 1) := fun ev hev w _ => by
  have h2 := run_slice_l (P := C.P) w t A n c ht k i h0 h1
  rw [hz w] at h2
  simp [execOp, hev x _ hx, hev y _ hy, Instr.sliceAt, run_underlying ht, h2]
theorem Qv.slTo {A : Option Addr} {n c : Nat} {i : Int} (ht : C.P.underlying t = some (.slice (C.P.elem t))) (hz : ∀ w, (sizeOf (C.P.elem t)).run C.P w = .ok 1 w) (hx : opv l x = some (.slice A n c)) (hy : opv l y = some (.int k i)) (h0 : 0 ≤ i) (h1 : i ≤ c) :
    Qv C l m ⟨dd, .slice t x none (some y) none, ty, pos, af, g⟩ (sliced A 0 i.toNat c 1) := fun ev hev w _ => by
  have h2 := run_slice_h (P := C.P) w t A n c ht k i h0 h1
  rw [hz w] at h2
  simp [execOp, hev x _ hx, hev y _ hy, Instr.sliceAt, run_underlying ht, h2]
theorem r_sf {A : Option Addr} {n c : Nat} {i : Int} (ht : C.P.underlying t = some (.slice (C.P.elem t))) (hz : ∀ w, (sizeOf (C.P.elem t)).run C.P w = .ok 1 w) (hx : opv l x = some (.slice A n c)) (hy : opv l y = some (.int k i)) (h0 : 0 ≤ i) (h1 : i ≤ n) (h : okk ops l g d C.n = true) (cc : WX b C Q ops rest ((d, sliced A i.toNat n c 1) :: l) m) :
    WX b C Q ops (⟨some d, .slice t x (some y) none none, ty, pos, af, g⟩ :: rest) l m := WX.q (Qv.slFrom ht hz hx hy h0 h1) rfl (okk_1 h) (okk_2 h) rfl cc
theorem r_sto {A : Option Addr} {n c : Nat} {i : Int} (ht : C.P.underlying t = some (.slice (C.P.elem t))) (hz : ∀ w, (sizeOf (C.P.elem t)).run C.P w = .ok 1 w) (hx : opv l x = some (.slice A n c)) (hy : opv l y = some (.int k i)) (h0 : 0 ≤ i) (h1 : i ≤ c) (h : okk ops l g d C.n = true) (cc : WX b C Q ops rest ((d, sliced A 0 i.toNat c 1) :: l) m) :
    WX b C Q ops (⟨some d, .slice t x none (some y) none, ty, pos, af, g⟩ :: rest) l m := WX.q (Qv.slTo ht hz hx hy h0 h1) rfl (okk_1 h) (okk_2 h) rfl cc
theorem sliced_at (gg i n c : Nat) (h : i ≠ c) : sliced (some ⟨gg, 0, none⟩) i n c 1 = .slice (some ⟨gg, i, none⟩) (n - i) (c - i) := by
  unfold sliced
  rw [if_neg (fun e => h e.symm)]
  simp [addr_add]
theorem sliced_0 (gg n c : Nat) : sliced (some ⟨gg, 0, none⟩) 0 n c 1 = .slice (some ⟨gg, 0, none⟩) n c := by
  unfold sliced
  split <;> simp [addr_add]
/-- copy into a row that is laid open. -/
theorem Ev.copy (i : Nat) {e e' : TypeId} {gg o dl dc : Nat} {a : Addr} {sl sc : Nat} {cs vs : List Value} {m' : List Res} (hu : C.P.underlying t = some (.slice e)) (hs : (C.P.info? e).map (·.size) = some 1) (hx : opv l x = some (.slice (some ⟨gg, o, none⟩) dl dc)) (hy : opv l y = some (.slice (some a) sl sc)) (hi : m[i]? = some (.blk gg cs e'))
    (hsrc : ∀ w, Mem C.w0 (m ++ C.m0) w → ∀ j v, vs[j]? = some v → w.cell? (a.add j) = some v) (hn : vs.length = Nat.min sl dl) (hfit : o + vs.length ≤ cs.length) (h1 : ∀ v ∈ vs, v.oneCell' = true) (hm : m.set i (.blk gg (cs.take o ++ vs ++ cs.drop (o + vs.length)) e') = m') :
    Ev (α := Unit) C l m ⟨dd, .call { callee := .builtin .copy, args := #[x, y], argTypes := #[t, t'] }, ty, pos, af, g⟩ (fun _ => True) (fun _ => .int .i64 vs.length) (fun _ => m') := fun ev hev w hw => by
  have hlt : i < m.length := (List.getElem?_eq_some_iff.1 hi).1
  have hi' : (m ++ C.m0)[i]? = some (.blk gg cs e') := by rw [List.getElem?_append_left hlt]; exact hi
  have h := hw.all i _ hi'
  have hrun := run_copy_row (P := C.P) w t t' ty e gg o dl dc a sl sc cs.toArray e' vs hu hs h.2 hn (hsrc w hw) (by simpa using hfit) h1
  refine ⟨(), w.setRow gg (cs.take o ++ vs ++ cs.drop (o + vs.length)).toArray, trivial, ?_, ?_⟩
  · simp only [goInt] at hrun
    simp [execOp, resolve, invoke, builtin, hev x _ hx, hev y _ hy, hrun]
  · rw [← hm, ← List.set_append_left _ _ hlt]
    refine hw.upd hi' (grownBy_setRow _) ⟨h.1, ?_⟩ (fun k hk => .inl hk)
    have := setRow_heap w gg cs.toArray (cs.take o ++ vs ++ cs.drop (o + vs.length)).toArray e' (0, 0) h.2
    simpa using this
/-- append of k zeros, where there is no room: a new row. -/
theorem Ev.zeros {e : TypeId} {inf : TypeInfo} {zv : Value} {kn : IntKind} {gg n c kk : Nat} {olds : List Value} (ht : C.P.underlying t = some (.slice e)) (htn : C.P.underlying t' = some (.int kn)) (hi : C.P.info? e = some inf) (hz : inf.zero = some zv) (hs1 : inf.size = 1) (hby : inf.bytes = 4) (hzc : zv.cells.size = 1)
    (hx : opv l x = some (.slice (some ⟨gg, 0, none⟩) n c)) (hy : opv l y = some (.int k kk)) (hold : ∀ w, Mem C.w0 (m ++ C.m0) w → ∀ j v, olds[j]? = some v → w.cell? ⟨gg, j, none⟩ = some v) (hol : olds.length = n) (h0 : 0 < kk) (hg : c < n + kk) (hb : (n + kk) * 4 ≤ 140737488355328) :
    Ev (α := Nat × Nat) C l m ⟨dd, .call { callee := .builtin .append, args := #[x, y], argTypes := #[t, t'] }, ty, pos, af, g⟩ (fun _ => True) (fun p => .slice (some ⟨p.1, 0, none⟩) (n + kk) p.2) (fun p => .own (some ⟨p.1, 0, none⟩) p.2 (n + kk) (olds ++ (Builtin.zeroCells zv.cells kk).toList) e 1 :: m) := fun ev hev w hw => by
  have hl := run_loadCells_list (P := C.P) w.drew ⟨gg, 0, none⟩ olds (fun j v hj => by rw [addr_add]; exact hold w.drew hw.drew j v hj)
  have hf : (Builtin.firstCells inf.size n (.slice (some ⟨gg, 0, none⟩) n c)).run C.P w.drew = .ok olds.toArray w.drew := by
    rw [hs1]
    simp only [Builtin.firstCells, Nat.mul_one, ← hol]
    exact hl
  have hrun := Go.Lib.run_append_grow_zeros (P := C.P) w t t' ty e inf zv k kn ht htn hi hz (some ⟨gg, 0, none⟩) n c olds hf kk h0 (by omega) hg (by omega) (by rw [hby]; omega) (by rw [hby]; exact growslice_fits hg hb)
  have hge := grownCap_ge w (n + kk) c e
  have hle := grownCap_le_maxLen w (n + kk) c e (by unfold maxLen; omega)
  refine ⟨(w.heap.size, grownCap w (n + kk) c e), w.drew.alloc (.cells (olds.toArray ++ Builtin.zeroCells zv.cells kk ++ Builtin.zeroCells zv.cells (grownCap w (n + kk) c e - (n + kk))) e), trivial, ?_, ?_⟩
  rotate_left
  · have hgb : w.grownBy (w.drew.alloc (.cells (olds.toArray ++ Builtin.zeroCells zv.cells kk ++ Builtin.zeroCells zv.cells (grownCap w (n + kk) c e - (n + kk))) e)) none :=
      let q := World.grownBy_alloc w.drew (.cells (olds.toArray ++ Builtin.zeroCells zv.cells kk ++ Builtin.zeroCells zv.cells (grownCap w (n + kk) c e - (n + kk))) e) none
      ⟨q.os, q.tape, q.output, q.size, q.block⟩
    refine Mem.add hw hgb (r := .own (some ⟨w.heap.size, 0, none⟩) (grownCap w (n + kk) c e) (n + kk) (olds ++ (Builtin.zeroCells zv.cells kk).toList) e 1) ?_ (fun k hk => by simp [Res.block] at hk; omega)
    refine ⟨by simp [size_zeroCells, hzc, hol], .inr ⟨w.heap.size, grownCap w (n + kk) c e, _, rfl, hw.bnd, heap_alloc_new w.drew _, hge, hle, ?_, ?_⟩⟩
    · simp only [Array.size_append, List.size_toArray, size_zeroCells, hzc, hol]
      omega
    · simp only [Array.toList_append]
      refine List.take_left' ?_
      simp [size_zeroCells, hzc, hol]
  · simp [execOp, resolve, invoke, builtin, hev x _ hx, hev y _ hy, hrun]
theorem r_zr {e : TypeId} {zv : Value} {kn : IntKind} {gg n c kk : Nat} {q : Int} (olds : List Value) (ht : C.P.underlying t = some (.slice e)) (htn : C.P.underlying t' = some (.int kn)) (hinf : (C.P.info? e).map (fun i => (i.zero, i.size, i.bytes)) = some (some zv, 1, 4)) (hzc : zv.cells.size = 1)
    (hx : opv l x = some (.slice (some ⟨gg, 0, none⟩) n c)) (hy : opv l y = some (.int k q)) (hq : q = (kk : Int)) (hold : ∀ w, Mem C.w0 (m ++ C.m0) w → ∀ j v, olds[j]? = some v → w.cell? ⟨gg, j, none⟩ = some v) (hol : olds.length = n) (h0 : 0 < kk) (hg : c < n + kk) (hb : (n + kk) * 4 ≤ 140737488355328) (h : okk ops l g d C.n = true)
    (cc : ∀ p : Nat × Nat, WX false C Q ops rest ((d, .slice (some ⟨p.1, 0, none⟩) (n + kk) p.2) :: l) (.own (some ⟨p.1, 0, none⟩) p.2 (n + kk) (olds ++ (Builtin.zeroCells zv.cells kk).toList) e 1 :: m)) :
    WX false C Q ops (⟨some d, .call { callee := .builtin .append, args := #[x, y], argTypes := #[t, t'] }, ty, pos, af, g⟩ :: rest) l m := by
  subst hq
  cases hqq : C.P.info? e with
  | none => simp [hqq] at hinf
  | some inf =>
    have h3 : inf.zero = some zv ∧ inf.size = 1 ∧ inf.bytes = 4 := by simpa [hqq] using hinf
    exact WX.ev (Ev.zeros ht htn hqq h3.1 h3.2.1 h3.2.2 hzc hx hy hold hol h0 hg hb) rfl (okk_1 h) (okk_2 h) rfl (fun p _ => cc p)
theorem r_cpy (i : Nat) {e e' : TypeId} {gg o dl dc : Nat} {a : Addr} {sl sc : Nat} {cs : List Value} (vs : List Value) {m' : List Res} (hu : C.P.underlying t = some (.slice e)) (hs : (C.P.info? e).map (·.size) = some 1) (hx : opv l x = some (.slice (some ⟨gg, o, none⟩) dl dc)) (hy : opv l y = some (.slice (some a) sl sc)) (hi : m[i]? = some (.blk gg cs e'))
    (hsrc : ∀ w, Mem C.w0 (m ++ C.m0) w → ∀ j v, vs[j]? = some v → w.cell? (a.add j) = some v) (hn : vs.length = Nat.min sl dl) (hfit : o + vs.length ≤ cs.length) (h1 : ∀ v ∈ vs, v.oneCell' = true) (hm : m.set i (.blk gg (cs.take o ++ vs ++ cs.drop (o + vs.length)) e') = m') (h : okk ops l g d C.n = true) (c : WX false C Q ops rest ((d, .int .i64 vs.length) :: l) m') :
    WX false C Q ops (⟨some d, .call { callee := .builtin .copy, args := #[x, y], argTypes := #[t, t'] }, ty, pos, af, g⟩ :: rest) l m := WX.ev (Ev.copy i hu hs hx hy hi hsrc hn hfit h1 hm) rfl (okk_1 h) (okk_2 h) rfl (fun _ _ => c)
theorem Qv.st0 (j : Nat) {gg n c : Nat} {q : Int} (ht : C.P.underlying t = some (.slice (C.P.elem t))) (hz : ∀ w, (sizeOf (C.P.elem t)).run C.P w = .ok 1 w) (hx : opv l x = some (.slice (some ⟨gg, 0, none⟩) n c)) (hy : opv l y = some (.int k q)) (hq : q = (j : Int)) (h1 : j ≤ c) :
    Qv C l m ⟨dd, .slice t x none (some y) none, ty, pos, af, g⟩ (.slice (some ⟨gg, 0, none⟩) j c) := by
  subst hq
  have := Qv.slTo (m := m) (dd := dd) (ty := ty) (pos := pos) (af := af) (g := g) ht hz hx hy (by omega) (by omega)
  rw [Int.toNat_natCast, sliced_0] at this
  exact this
theorem Qv.sfj (j : Nat) {gg n c : Nat} {q : Int} (ht : C.P.underlying t = some (.slice (C.P.elem t))) (hz : ∀ w, (sizeOf (C.P.elem t)).run C.P w = .ok 1 w) (hx : opv l x = some (.slice (some ⟨gg, 0, none⟩) n c)) (hy : opv l y = some (.int k q)) (hq : q = (j : Int)) (h1 : j ≤ n) (h2 : j ≠ c) :
    Qv C l m ⟨dd, .slice t x (some y) none none, ty, pos, af, g⟩ (.slice (some ⟨gg, j, none⟩) (n - j) (c - j)) := by
  subst hq
  have := Qv.slFrom (m := m) (dd := dd) (ty := ty) (pos := pos) (af := af) (g := g) ht hz hx hy (by omega) (by omega)
  rw [Int.toNat_natCast, sliced_at gg j n c h2] at this
  exact this
theorem r_st0 (j : Nat) {gg n c : Nat} {q : Int} (ht : C.P.underlying t = some (.slice (C.P.elem t))) (hz : ∀ w, (sizeOf (C.P.elem t)).run C.P w = .ok 1 w) (hx : opv l x = some (.slice (some ⟨gg, 0, none⟩) n c)) (hy : opv l y = some (.int k q)) (hq : q = (j : Int)) (h1 : j ≤ c) (h : okk ops l g d C.n = true) (cc : WX b C Q ops rest ((d, .slice (some ⟨gg, 0, none⟩) j c) :: l) m) :
    WX b C Q ops (⟨some d, .slice t x none (some y) none, ty, pos, af, g⟩ :: rest) l m := WX.q (Qv.st0 j ht hz hx hy hq h1) rfl (okk_1 h) (okk_2 h) rfl cc
theorem r_sfj (j : Nat) {gg n c : Nat} {q : Int} (ht : C.P.underlying t = some (.slice (C.P.elem t))) (hz : ∀ w, (sizeOf (C.P.elem t)).run C.P w = .ok 1 w) (hx : opv l x = some (.slice (some ⟨gg, 0, none⟩) n c)) (hy : opv l y = some (.int k q)) (hq : q = (j : Int)) (h1 : j ≤ n) (h2 : j ≠ c) (h : okk ops l g d C.n = true) (cc : WX b C Q ops rest ((d, .slice (some ⟨gg, j, none⟩) (n - j) (c - j)) :: l) m) :
    WX b C Q ops (⟨some d, .slice t x (some y) none none, ty, pos, af, g⟩ :: rest) l m := WX.q (Qv.sfj j ht hz hx hy hq h1 h2) rfl (okk_1 h) (okk_2 h) rfl cc
theorem Mem.rowCell {w0 w : World} {m : List Res} {bb : Nat} {cs : List Value} {e : TypeId} (hw : Mem w0 m w) (i : Nat) (hi : m[i]? = some (.blk bb cs e)) {j : Nat} {v : Value} (hj : cs[j]? = some v) : w.cell? ⟨bb, j, none⟩ = some v := by
  have h := hw.all i _ hi
  rw [cell_of_row w bb j cs.toArray e (0, 0) h.2]
  simpa using hj
theorem take_head {X : List Value} {i : Nat} {P : List Value} (h : X.take i = P) : X.take i = P ∧ P.length ≤ i := ⟨h, by rw [← h]; exact List.length_take_le _ _⟩
theorem ins_B (X D P : List Value) (v : Value) (i : Nat) (hP : X.take i = P) (hi : P.length = i) (hX : i + 1 ≤ X.length) :
    ((X.take (i + 1) ++ D ++ X.drop (i + 1 + D.length)).take i ++ [v] ++ (X.take (i + 1) ++ D ++ X.drop (i + 1 + D.length)).drop (i + [v].length)).take (i + 1 + D.length) = P ++ v :: D := by
  have l1 : (X.take (i + 1)).length = i + 1 := by simp; omega
  have e1 : (X.take (i + 1) ++ D ++ X.drop (i + 1 + D.length)).take i = P := by
    rw [List.append_assoc, List.take_append_of_le_length (by omega), List.take_take, Nat.min_eq_left (by omega)]
    exact hP
  have e2 : (X.take (i + 1) ++ D ++ X.drop (i + 1 + D.length)).drop (i + [v].length) = D ++ X.drop (i + 1 + D.length) := by
    rw [List.append_assoc]
    exact List.drop_left' (by rw [l1]; rfl)
  rw [e1, e2, ← List.append_assoc]
  have e3 : P ++ [v] ++ D = P ++ v :: D := by simp
  rw [e3]
  refine List.take_left' ?_
  simp
  omega
theorem ins_A (X D P : List Value) (v : Value) (i : Nat) (hP : X.take i = P) (hi : P.length = i) (hX : i + 1 ≤ X.length) :
    ((X.take i ++ [v] ++ X.drop (i + [v].length)).take (i + 1) ++ D ++ (X.take i ++ [v] ++ X.drop (i + [v].length)).drop (i + 1 + D.length)).take (i + 1 + D.length) = P ++ v :: D := by
  rw [hP]
  have e1 : (P ++ [v] ++ X.drop (i + [v].length)).take (i + 1) = P ++ [v] := List.take_left' (by simp; omega)
  rw [e1]
  have e3 : P ++ [v] ++ D = P ++ v :: D := by simp
  rw [e3]
  refine List.take_left' ?_
  simp
  omega
end
end Go.Gp
