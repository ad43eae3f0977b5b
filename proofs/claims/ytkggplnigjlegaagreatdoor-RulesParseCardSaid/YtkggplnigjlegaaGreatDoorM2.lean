/- Contracts and laws, part 2 of 5: what each function of the program computes. -/
import Derived.Laws.CopyRow
import Derived.Lib.AppendZerosOnto
import Derived.Lib.Overlaps
import Derived.Laws.IdiomCopy
import Derived.DataElems
import Derived.Laws.OwnMore
import Derived.Test.YtkggplnigjlegaaGreatDoorM1
/- slices.Index, label.parts: the walks. -/
namespace Go.Proofs.YtkggplnigjlegaaGreatDoor
open Go.RowKit Go.Gp

/-- The first place of v, or -1. -/
def idxP (v : Int) (l : List Int) : Int := findFrom (fun c => decide (v = c)) l
set_option maxRecDepth 100000 in
theorem index_spec (A : Option Addr) (c : Nat) (l : List Int) (v : Int) (hn : l.length ≤ 9000000000000000000) (w0 : World) (m0 : List Res) (hA : Rd w0 m0 A (runes l)) :
    PureC Tryz.prog 56 [.slice A l.length c, .int .i32 v] w0 m0 (.int .i64 (idxP v l)) := by
  refine Ct.of Tryz.func56 rfl (by kernel_rfl) rfl ?_
  (refine c_sq fun k9 h9 => c_rg <| r_as rfl rfl <| r_nx h9 <| c_sq fun k11 h11 => c_sq fun k13 h13 => c_rg <| r_mv rfl rfl <| r_ls Tryz.underlying47 rfl rfl <| r_mv rfl rfl <| r_nx h13 <| c_bl ?_; rotate_left)
  refine WC.loop (α := Nat) (fun i => [(0, .slice A l.length c), (1, .int .i32 v), (7, .int .i64 l.length), (8, .int .i64 i)]) (fun _ => []) (fun i => i ≤ l.length ∧ ∀ j, j < i → ¬ v = l.getD j 0) (fun i => l.length - i) 0 ⟨by omega, by omega⟩ ⟨rfl, rfl, rfl, rfl, trivial⟩ Mem.keep ?_
  rintro i ⟨hi, hb⟩
  by_cases hlt : i < l.length
  · by_cases ht : v = l.getD i 0
    · (refine c_sq fun k20 h20 => c_rg <| r_ltT rfl rfl rfl (by omega) <| r_nx h20 <| c_sq fun k22 h22 => c_cT rfl <| c_sk <| WE.then_n h22 <| c_sq fun k24 h24 => c_bl <| c_sq fun k26 h26 => c_rg <| r_mv rfl rfl <| r_as rfl rfl <| r_nx h26 <| c_sq fun k28 h28 => c_rg <| r_mv rfl rfl <| r_mv rfl rfl <| r_mv rfl rfl <| r_im (hA.app _) Tryz.underlying47 (by kernel_rfl) rfl rfl rfl rfl (by omega) (by omega) <| r_li (i) (hA.app _) Tryz.underlying21 rfl rfl rfl (by omega) <| r_eqT rfl rfl rfl (by omega) <| r_nx h28 <| c_cT rfl <| c_sq fun k30 h30 => c_rg <| r_mv rfl rfl <| r_as rfl rfl <| r_nx h30 <| c_rt <| WE.blk_r <| WE.then_r <| WE.then_r <| WE.blk_r <| WE.then_r ?_; rotate_left)
      exact WE.ret1 () rfl rfl (by
        have : l.findIdx? (fun c => decide (v = c)) = some i := by
          rw [List.findIdx?_eq_some_iff_getElem]
          refine ⟨hlt, decide_eq_true (by have := ht; simp [hlt] at this; exact this), fun j hj => ?_⟩
          have := hb j hj
          have hj' : j < l.length := by omega
          simp [hj'] at this
          simp [this]
        unfold idxP findFrom
        rw [this]
        rfl) trivial Mem.drop
    · (refine c_sq fun k20 h20 => c_rg <| r_ltT rfl rfl rfl (by omega) <| r_nx h20 <| c_sq fun k22 h22 => c_cT rfl <| c_sk <| WE.then_n h22 <| c_sq fun k24 h24 => c_bl <| c_sq fun k26 h26 => c_rg <| r_mv rfl rfl <| r_as rfl rfl <| r_nx h26 <| c_sq fun k28 h28 => c_rg <| r_mv rfl rfl <| r_mv rfl rfl <| r_mv rfl rfl <| r_im (hA.app _) Tryz.underlying47 (by kernel_rfl) rfl rfl rfl rfl (by omega) (by omega) <| r_li (i) (hA.app _) Tryz.underlying21 rfl rfl rfl (by omega) <| r_eqF rfl rfl rfl (by omega) <| r_nx h28 <| c_cF rfl <| c_sk <| WE.blk_n <| WE.then_n h24 <| c_rg <| r_ad rfl rfl rfl (wadd64 (by omega)) <| r_mv rfl rfl <| r_nl ?_; rotate_left)
      exact WE.back (i + 1) ⟨by omega, fun j hj => by
        rcases Nat.lt_succ_iff_lt_or_eq.1 hj with h | h
        · exact hb j h
        · rw [h]; exact ht⟩ (by omega) ⟨rfl, rfl, rfl, rfl, trivial⟩ Mem.keep
  · (refine c_sq fun k19 h19 => c_rg <| r_ltF rfl rfl rfl (by omega) <| r_nx h19 <| c_sq fun k21 h21 => c_cF rfl <| c_ex <| WE.then_x <| WE.then_x <| WE.blk_x <| WE.then_n h11 <| c_sq fun k23 h23 => c_rg <| r_as rfl rfl <| r_nx h23 <| c_rt ?_; rotate_left)
    exact WE.ret1 () rfl rfl (by
      have : l.findIdx? (fun c => decide (v = c)) = none := by
        rw [List.findIdx?_eq_none_iff]
        intro x hx
        obtain ⟨j, hj, rfl⟩ := List.mem_iff_getElem.1 hx
        have := hb j (by omega)
        simp [hj] at this
        simp [this]
      unfold idxP findFrom
      rw [this]
      rfl) trivial Mem.drop
/-- label.parts: what it closes over lies in a new block. -/
theorem parts_spec (A : Option Addr) (n c : Nat) (w0 : World) (m0 : List Res) :
    Ct (α := Nat) Tryz.prog 36 [.slice A n c] w0 [] m0 (fun _ => True) (fun b => .func (.func 55) #[] #[.pointer (some ⟨b, 0, none⟩)]) (fun b => [.blk b [.slice A n c] 47]) := by
  refine Ct.of Tryz.func36 rfl (by kernel_rfl) rfl ?_
  (refine c_sq fun k6 h6 => c_rg <| r_bx rfl rfl rfl (fun _ => ?_); refine r_as rfl rfl <| r_nx h6 <| c_sq fun k9 h9 => c_rg <| r_fn rfl rfl <| r_as rfl rfl <| r_nx h9 <| c_rt ?_; rotate_left)
  exact WE.ret1 _ rfl rfl rfl trivial Mem.keep
end Go.Proofs.YtkggplnigjlegaaGreatDoor

/- Slices of slices, copy, append of zeros: a row of cells laid open; the rules of the walk. -/
set_option linter.unusedVariables false
namespace Go.Gp
open Go.RowKit
theorem addr_add (g k : Nat) : (⟨g, 0, none⟩ : Addr).add k = ⟨g, k, none⟩ := by
  by_cases h : k = 0
  · subst h; simp [Addr.add]
  · simp [Addr.add, h]
theorem addr_add2 (g o k : Nat) : (⟨g, o, none⟩ : Addr).add k = ⟨g, o + k, none⟩ := by
  by_cases h : k = 0
  · subst h; simp [Addr.add]
  · simp [Addr.add, h]
section
variable {C : Cx} {Q : Po} {l : List (Nat × Value)} {m : List Res} {ops : Array Oper} {rest : List Oper} {ty : TypeId} {pos : String} {af : Array Edge} {g : Option (Nat × Bool)} {b : Bool} {d : Nat} {v u : Value} {x y z : Operand} {t t' t2 : TypeId} {k k' : IntKind} {dd : Option Nat}
/-- A slice that the call owns is laid open. -/
theorem WX.open (i : Nat) {A : Option Addr} {c n : Nat} {xs : List Value} {e : TypeId} (hi : m[i]? = some (.own A c n xs e 1)) (hn : 0 < n) (h : ∀ (gg : Nat) (cur : List Value), A = some ⟨gg, 0, none⟩ → cur.length = c → cur.take n = xs → n ≤ c → c ≤ maxLen → WX false C Q ops rest l (m.set i (.blk gg cur e))) : WX false C Q ops rest l m := by
  have hlt : i < m.length := (List.getElem?_eq_some_iff.1 hi).1
  have hu : ∀ a w, C.St l m a w → ∃ gg cur, A = some ⟨gg, 0, none⟩ ∧ cur.length = c ∧ cur.take n = xs ∧ n ≤ c ∧ c ≤ maxLen ∧ C.St l (m.set i (.blk gg cur e)) a w := fun a w hs => by
    have hi' : (m ++ C.m0)[i]? = some (.own A c n xs e 1) := by rw [List.getElem?_append_left hlt]; exact hi
    have hown : w.ownsRow C.w0.heap.size e 1 (.slice A n c) n xs := hs.2.all i _ hi'
    rcases hown.2 with ⟨_, h0⟩ | ⟨gg, cap, cur, hv, hb, hg, hnc, hcm, hcs, htake⟩
    · omega
    · injection hv with h1 h2 h3
      subst h3
      refine ⟨gg, cur.toList, h1, by simpa using hcs, by simpa using htake, hnc, hcm, hs.1, ?_⟩
      rw [← List.set_append_left _ _ hlt]
      refine hs.2.upd hi' ⟨rfl, rfl, rfl, Nat.le_refl _, fun _ _ _ => rfl⟩ ⟨hb, by simpa using hg⟩ (fun k hk => .inl ?_)
      simp only [Res.block] at hk ⊢
      rw [h1]
      exact hk
  unfold WX WL at h ⊢
  intro a w hs
  obtain ⟨gg, cur, h1, h2, h3, h4, h5, hs'⟩ := hu a w hs
  exact h gg cur h1 h2 h3 h4 h5 a w hs'
/-- .. and shut again. -/
theorem Mem.shut {w0 w : World} {m0 : List Res} (i : Nat) {gg c n : Nat} {cur : List Value} {e : TypeId} (hi : m[i]? = some (.blk gg cur e)) (hc : cur.length = c) (hn : n ≤ c) (hm : c ≤ maxLen) (hw : Mem w0 (m ++ m0) w) : Mem w0 (m.set i (.own (some ⟨gg, 0, none⟩) c n (cur.take n) e 1) ++ m0) w := by
  have hlt : i < m.length := (List.getElem?_eq_some_iff.1 hi).1
  have hi' : (m ++ m0)[i]? = some (.blk gg cur e) := by rw [List.getElem?_append_left hlt]; exact hi
  have h := hw.all i _ hi'
  rw [← List.set_append_left _ _ hlt]
  refine hw.upd hi' ⟨rfl, rfl, rfl, Nat.le_refl _, fun _ _ _ => rfl⟩ ?_ (fun k hk => .inl hk)
  refine ⟨by simp; omega, .inr ⟨gg, c, cur.toArray, rfl, h.1, h.2, hn, hm, by simpa using hc, by simp⟩⟩
theorem Qv.slFrom {A : Option Addr} {n c : Nat} {i : Int} (ht : C.P.underlying t = some (.slice (C.P.elem t))) (hz : ∀ w, (sizeOf (C.P.elem t)).run C.P w = .ok 1 w) (hx : opv l x = some (.slice A n c)) (hy : opv l y = some (.int k i)) (h0 : 0 ≤ i) (h1 : i ≤ n) :
    Qv C l m ⟨dd, .slice t x (some y) none none, ty, pos, af, g⟩ (sliced A i.toNat n c 1) := fun ev hev w _ => by
  have h2 := run_slice_l (P := C.P) w t A n c ht k i h0 h1
  rw [hz w] at h2
  simp [execOp, hev x _ hx, hev y _ hy, Instr.sliceAt, run_underlying ht, h2]
theorem Qv.slTo {A : Option Addr} {n c : Nat} {i : Int} (ht : C.P.underlying t = some (.slice (C.P.elem t))) (hz : ∀ w, (sizeOf (C.P.elem t)).run C.P w = .ok 1 w) (hx : opv l x = some (.slice A n c)) (hy : opv l y = some (.int k i)) (h0 : 0 ≤ i) (h1 : i ≤ c) :
    Qv C l m ⟨dd, .slice t x none (some y) none, ty, pos, af, g⟩ (sliced A 0 i.toNat c 1) := fun ev hev w _ => by
  have h2 := run_slice_h (P := C.P) w t A n c ht k i h0 h1
  rw [hz w] at h2
  simp [execOp, hev x _ hx, hev y _ hy, Instr.sliceAt, run_underlying ht, h2]
theorem r_sf {A : Option Addr} {n c : Nat} {i : Int} (ht : C.P.underlying t = some (.slice (C.P.elem t))) (hz : ∀ w, (sizeOf (C.P.elem t)).run C.P w = .ok 1 w) (hx : opv l x = some (.slice A n c)) (hy : opv l y = some (.int k i)) (h0 : 0 ≤ i) (h1 : i ≤ n) (h : okk ops l g d C.n = true) (cc : WX b C Q ops rest ((d, sliced A i.toNat n c 1) :: l) m) :
    WX b C Q ops (⟨some d, .slice t x (some y) none none, ty, pos, af, g⟩ :: rest) l m := WX.q (Qv.slFrom ht hz hx hy h0 h1) rfl (okk_1 h) (okk_2 h) rfl cc
theorem r_sto {A : Option Addr} {n c : Nat} {i : Int} (ht : C.P.underlying t = some (.slice (C.P.elem t))) (hz : ∀ w, (sizeOf (C.P.elem t)).run C.P w = .ok 1 w) (hx : opv l x = some (.slice A n c)) (hy : opv l y = some (.int k i)) (h0 : 0 ≤ i) (h1 : i ≤ c) (h : okk ops l g d C.n = true) (cc : WX b C Q ops rest ((d, sliced A 0 i.toNat c 1) :: l) m) :
    WX b C Q ops (⟨some d, .slice t x none (some y) none, ty, pos, af, g⟩ :: rest) l m := WX.q (Qv.slTo ht hz hx hy h0 h1) rfl (okk_1 h) (okk_2 h) rfl cc
theorem sliced_at (gg i n c : Nat) (h : i ≠ c) : sliced (some ⟨gg, 0, none⟩) i n c 1 = .slice (some ⟨gg, i, none⟩) (n - i) (c - i) := by
  unfold sliced
  rw [if_neg (fun e => h e.symm)]
  simp [addr_add]
theorem sliced_0 (gg n c : Nat) : sliced (some ⟨gg, 0, none⟩) 0 n c 1 = .slice (some ⟨gg, 0, none⟩) n c := by
  unfold sliced
  split <;> simp [addr_add]
/-- copy into a row that is laid open. -/
theorem Ev.copy (i : Nat) {e e' : TypeId} {gg o dl dc : Nat} {a : Addr} {sl sc : Nat} {cs vs : List Value} {m' : List Res} (hu : C.P.underlying t = some (.slice e)) (hs : (C.P.info? e).map (·.size) = some 1) (hx : opv l x = some (.slice (some ⟨gg, o, none⟩) dl dc)) (hy : opv l y = some (.slice (some a) sl sc)) (hi : m[i]? = some (.blk gg cs e'))
    (hsrc : ∀ w, Mem C.w0 (m ++ C.m0) w → ∀ j v, vs[j]? = some v → w.cell? (a.add j) = some v) (hn : vs.length = Nat.min sl dl) (hfit : o + vs.length ≤ cs.length) (h1 : ∀ v ∈ vs, v.oneCell' = true) (hm : m.set i (.blk gg (cs.take o ++ vs ++ cs.drop (o + vs.length)) e') = m') :
    Ev (α := Unit) C l m ⟨dd, .call { callee := .builtin .copy, args := #[x, y], argTypes := #[t, t'] }, ty, pos, af, g⟩ (fun _ => True) (fun _ => .int .i64 vs.length) (fun _ => m') := fun ev hev w hw => by
  have hlt : i < m.length := (List.getElem?_eq_some_iff.1 hi).1
  have hi' : (m ++ C.m0)[i]? = some (.blk gg cs e') := by rw [List.getElem?_append_left hlt]; exact hi
  have h := hw.all i _ hi'
  have hrun := run_copy_row (P := C.P) w t t' ty e gg o dl dc a sl sc cs.toArray e' vs hu hs h.2 hn (hsrc w hw) (by simpa using hfit) h1
  refine ⟨(), w.setRow gg (cs.take o ++ vs ++ cs.drop (o + vs.length)).toArray, trivial, ?_, ?_⟩
  · simp only [goInt] at hrun
    simp [execOp, resolve, invoke, builtin, hev x _ hx, hev y _ hy, hrun]
  · rw [← hm, ← List.set_append_left _ _ hlt]
    refine hw.upd hi' (grownBy_setRow _) ⟨h.1, ?_⟩ (fun k hk => .inl hk)
    have := setRow_heap w gg cs.toArray (cs.take o ++ vs ++ cs.drop (o + vs.length)).toArray e' (0, 0) h.2
    simpa using this
/-- append of k zeros, where there is no room: a new row. -/
theorem Ev.zeros {e : TypeId} {inf : TypeInfo} {zv : Value} {kn : IntKind} {gg n c kk : Nat} {olds : List Value} (ht : C.P.underlying t = some (.slice e)) (htn : C.P.underlying t' = some (.int kn)) (hi : C.P.info? e = some inf) (hz : inf.zero = some zv) (hs1 : inf.size = 1) (hby : inf.bytes = 4) (hzc : zv.cells.size = 1)
    (hx : opv l x = some (.slice (some ⟨gg, 0, none⟩) n c)) (hy : opv l y = some (.int k kk)) (hold : ∀ w, Mem C.w0 (m ++ C.m0) w → ∀ j v, olds[j]? = some v → w.cell? ⟨gg, j, none⟩ = some v) (hol : olds.length = n) (h0 : 0 < kk) (hg : c < n + kk) (hb : (n + kk) * 4 ≤ 140737488355328) :
    Ev (α := Nat × Nat) C l m ⟨dd, .call { callee := .builtin .append, args := #[x, y], argTypes := #[t, t'] }, ty, pos, af, g⟩ (fun _ => True) (fun p => .slice (some ⟨p.1, 0, none⟩) (n + kk) p.2) (fun p => .own (some ⟨p.1, 0, none⟩) p.2 (n + kk) (olds ++ (Builtin.zeroCells zv.cells kk).toList) e 1 :: m) := fun ev hev w hw => by
  have hl := run_loadCells_list (P := C.P) w.drew ⟨gg, 0, none⟩ olds (fun j v hj => by rw [addr_add]; exact hold w.drew hw.drew j v hj)
  have hf : (Builtin.firstCells inf.size n (.slice (some ⟨gg, 0, none⟩) n c)).run C.P w.drew = .ok olds.toArray w.drew := by
    rw [hs1]
    simp only [Builtin.firstCells, Nat.mul_one, ← hol]
    exact hl
  have hrun := Go.Lib.run_append_grow_zeros (P := C.P) w t t' ty e inf zv k kn ht htn hi hz (some ⟨gg, 0, none⟩) n c olds hf kk h0 (by omega) hg (by omega) (by rw [hby]; omega) (by rw [hby]; exact growslice_fits hg hb)
  have hge := grownCap_ge w (n + kk) c e
  have hle := grownCap_le_maxLen w (n + kk) c e (by unfold maxLen; omega)
  refine ⟨(w.heap.size, grownCap w (n + kk) c e), w.drew.alloc (.cells (olds.toArray ++ Builtin.zeroCells zv.cells kk ++ Builtin.zeroCells zv.cells (grownCap w (n + kk) c e - (n + kk))) e), trivial, ?_, ?_⟩
  rotate_left
  · have hgb : w.grownBy (w.drew.alloc (.cells (olds.toArray ++ Builtin.zeroCells zv.cells kk ++ Builtin.zeroCells zv.cells (grownCap w (n + kk) c e - (n + kk))) e)) none :=
      let q := World.grownBy_alloc w.drew (.cells (olds.toArray ++ Builtin.zeroCells zv.cells kk ++ Builtin.zeroCells zv.cells (grownCap w (n + kk) c e - (n + kk))) e) none
      ⟨q.os, q.tape, q.output, q.size, q.block⟩
    refine Mem.add hw hgb (r := .own (some ⟨w.heap.size, 0, none⟩) (grownCap w (n + kk) c e) (n + kk) (olds ++ (Builtin.zeroCells zv.cells kk).toList) e 1) ?_ (fun k hk => by simp [Res.block] at hk; omega)
    refine ⟨by simp [size_zeroCells, hzc, hol], .inr ⟨w.heap.size, grownCap w (n + kk) c e, _, rfl, hw.bnd, heap_alloc_new w.drew _, hge, hle, ?_, ?_⟩⟩
    · simp only [Array.size_append, List.size_toArray, size_zeroCells, hzc, hol]
      omega
    · simp only [Array.toList_append]
      refine List.take_left' ?_
      simp [size_zeroCells, hzc, hol]
  · simp [execOp, resolve, invoke, builtin, hev x _ hx, hev y _ hy, hrun]
theorem r_zr {e : TypeId} {zv : Value} {kn : IntKind} {gg n c kk : Nat} {q : Int} (olds : List Value) (ht : C.P.underlying t = some (.slice e)) (htn : C.P.underlying t' = some (.int kn)) (hinf : (C.P.info? e).map (fun i => (i.zero, i.size, i.bytes)) = some (some zv, 1, 4)) (hzc : zv.cells.size = 1)
    (hx : opv l x = some (.slice (some ⟨gg, 0, none⟩) n c)) (hy : opv l y = some (.int k q)) (hq : q = (kk : Int)) (hold : ∀ w, Mem C.w0 (m ++ C.m0) w → ∀ j v, olds[j]? = some v → w.cell? ⟨gg, j, none⟩ = some v) (hol : olds.length = n) (h0 : 0 < kk) (hg : c < n + kk) (hb : (n + kk) * 4 ≤ 140737488355328) (h : okk ops l g d C.n = true)
    (cc : ∀ p : Nat × Nat, WX false C Q ops rest ((d, .slice (some ⟨p.1, 0, none⟩) (n + kk) p.2) :: l) (.own (some ⟨p.1, 0, none⟩) p.2 (n + kk) (olds ++ (Builtin.zeroCells zv.cells kk).toList) e 1 :: m)) :
    WX false C Q ops (⟨some d, .call { callee := .builtin .append, args := #[x, y], argTypes := #[t, t'] }, ty, pos, af, g⟩ :: rest) l m := by
  subst hq
  cases hqq : C.P.info? e with
  | none => simp [hqq] at hinf
  | some inf =>
    have h3 : inf.zero = some zv ∧ inf.size = 1 ∧ inf.bytes = 4 := by simpa [hqq] using hinf
    exact WX.ev (Ev.zeros ht htn hqq h3.1 h3.2.1 h3.2.2 hzc hx hy hold hol h0 hg hb) rfl (okk_1 h) (okk_2 h) rfl (fun p _ => cc p)
theorem r_cpy (i : Nat) {e e' : TypeId} {gg o dl dc : Nat} {a : Addr} {sl sc : Nat} {cs : List Value} (vs : List Value) {m' : List Res} (hu : C.P.underlying t = some (.slice e)) (hs : (C.P.info? e).map (·.size) = some 1) (hx : opv l x = some (.slice (some ⟨gg, o, none⟩) dl dc)) (hy : opv l y = some (.slice (some a) sl sc)) (hi : m[i]? = some (.blk gg cs e'))
    (hsrc : ∀ w, Mem C.w0 (m ++ C.m0) w → ∀ j v, vs[j]? = some v → w.cell? (a.add j) = some v) (hn : vs.length = Nat.min sl dl) (hfit : o + vs.length ≤ cs.length) (h1 : ∀ v ∈ vs, v.oneCell' = true) (hm : m.set i (.blk gg (cs.take o ++ vs ++ cs.drop (o + vs.length)) e') = m') (h : okk ops l g d C.n = true) (c : WX false C Q ops rest ((d, .int .i64 vs.length) :: l) m') :
    WX false C Q ops (⟨some d, .call { callee := .builtin .copy, args := #[x, y], argTypes := #[t, t'] }, ty, pos, af, g⟩ :: rest) l m := WX.ev (Ev.copy i hu hs hx hy hi hsrc hn hfit h1 hm) rfl (okk_1 h) (okk_2 h) rfl (fun _ _ => c)
theorem Qv.st0 (j : Nat) {gg n c : Nat} {q : Int} (ht : C.P.underlying t = some (.slice (C.P.elem t))) (hz : ∀ w, (sizeOf (C.P.elem t)).run C.P w = .ok 1 w) (hx : opv l x = some (.slice (some ⟨gg, 0, none⟩) n c)) (hy : opv l y = some (.int k q)) (hq : q = (j : Int)) (h1 : j ≤ c) :
    Qv C l m ⟨dd, .slice t x none (some y) none, ty, pos, af, g⟩ (.slice (some ⟨gg, 0, none⟩) j c) := by
  subst hq
  have := Qv.slTo (m := m) (dd := dd) (ty := ty) (pos := pos) (af := af) (g := g) ht hz hx hy (by omega) (by omega)
  rw [Int.toNat_natCast, sliced_0] at this
  exact this
theorem Qv.sfj (j : Nat) {gg n c : Nat} {q : Int} (ht : C.P.underlying t = some (.slice (C.P.elem t))) (hz : ∀ w, (sizeOf (C.P.elem t)).run C.P w = .ok 1 w) (hx : opv l x = some (.slice (some ⟨gg, 0, none⟩) n c)) (hy : opv l y = some (.int k q)) (hq : q = (j : Int)) (h1 : j ≤ n) (h2 : j ≠ c) :
    Qv C l m ⟨dd, .slice t x (some y) none none, ty, pos, af, g⟩ (.slice (some ⟨gg, j, none⟩) (n - j) (c - j)) := by
  subst hq
  have := Qv.slFrom (m := m) (dd := dd) (ty := ty) (pos := pos) (af := af) (g := g) ht hz hx hy (by omega) (by omega)
  rw [Int.toNat_natCast, sliced_at gg j n c h2] at this
  exact this
theorem r_st0 (j : Nat) {gg n c : Nat} {q : Int} (ht : C.P.underlying t = some (.slice (C.P.elem t))) (hz : ∀ w, (sizeOf (C.P.elem t)).run C.P w = .ok 1 w) (hx : opv l x = some (.slice (some ⟨gg, 0, none⟩) n c)) (hy : opv l y = some (.int k q)) (hq : q = (j : Int)) (h1 : j ≤ c) (h : okk ops l g d C.n = true) (cc : WX b C Q ops rest ((d, .slice (some ⟨gg, 0, none⟩) j c) :: l) m) :
    WX b C Q ops (⟨some d, .slice t x none (some y) none, ty, pos, af, g⟩ :: rest) l m := WX.q (Qv.st0 j ht hz hx hy hq h1) rfl (okk_1 h) (okk_2 h) rfl cc
theorem r_sfj (j : Nat) {gg n c : Nat} {q : Int} (ht : C.P.underlying t = some (.slice (C.P.elem t))) (hz : ∀ w, (sizeOf (C.P.elem t)).run C.P w = .ok 1 w) (hx : opv l x = some (.slice (some ⟨gg, 0, none⟩) n c)) (hy : opv l y = some (.int k q)) (hq : q = (j : Int)) (h1 : j ≤ n) (h2 : j ≠ c) (h : okk ops l g d C.n = true) (cc : WX b C Q ops rest ((d, .slice (some ⟨gg, j, none⟩) (n - j) (c - j)) :: l) m) :
    WX b C Q ops (⟨some d, .slice t x (some y) none none, ty, pos, af, g⟩ :: rest) l m := WX.q (Qv.sfj j ht hz hx hy hq h1 h2) rfl (okk_1 h) (okk_2 h) rfl cc
theorem Mem.rowCell {w0 w : World} {m : List Res} {bb : Nat} {cs : List Value} {e : TypeId} (hw : Mem w0 m w) (i : Nat) (hi : m[i]? = some (.blk bb cs e)) {j : Nat} {v : Value} (hj : cs[j]? = some v) : w.cell? ⟨bb, j, none⟩ = some v := by
  have h := hw.all i _ hi
  rw [cell_of_row w bb j cs.toArray e (0, 0) h.2]
  simpa using hj
theorem take_head {X : List Value} {i : Nat} {P : List Value} (h : X.take i = P) : X.take i = P ∧ P.length ≤ i := ⟨h, by rw [← h]; exact List.length_take_le _ _⟩
theorem ins_B (X D P : List Value) (v : Value) (i : Nat) (hP : X.take i = P) (hi : P.length = i) (hX : i + 1 ≤ X.length) :
    ((X.take (i + 1) ++ D ++ X.drop (i + 1 + D.length)).take i ++ [v] ++ (X.take (i + 1) ++ D ++ X.drop (i + 1 + D.length)).drop (i + [v].length)).take (i + 1 + D.length) = P ++ v :: D := by
  have l1 : (X.take (i + 1)).length = i + 1 := by simp; omega
  have e1 : (X.take (i + 1) ++ D ++ X.drop (i + 1 + D.length)).take i = P := by
    rw [List.append_assoc, List.take_append_of_le_length (by omega), List.take_take, Nat.min_eq_left (by omega)]
    exact hP
  have e2 : (X.take (i + 1) ++ D ++ X.drop (i + 1 + D.length)).drop (i + [v].length) = D ++ X.drop (i + 1 + D.length) := by
    rw [List.append_assoc]
    exact List.drop_left' (by rw [l1]; rfl)
  rw [e1, e2, ← List.append_assoc]
  have e3 : P ++ [v] ++ D = P ++ v :: D := by simp
  rw [e3]
  refine List.take_left' ?_
  simp
  omega
theorem ins_A (X D P : List Value) (v : Value) (i : Nat) (hP : X.take i = P) (hi : P.length = i) (hX : i + 1 ≤ X.length) :
    ((X.take i ++ [v] ++ X.drop (i + [v].length)).take (i + 1) ++ D ++ (X.take i ++ [v] ++ X.drop (i + [v].length)).drop (i + 1 + D.length)).take (i + 1 + D.length) = P ++ v :: D := by
  rw [hP]
  have e1 : (P ++ [v] ++ X.drop (i + [v].length)).take (i + 1) = P ++ [v] := List.take_left' (by simp; omega)
  rw [e1]
  have e3 : P ++ [v] ++ D = P ++ v :: D := by simp
  rw [e3]
  refine List.take_left' ?_
  simp
  omega
end
end Go.Gp

/- slices.Insert of one code point: the walk. -/
namespace Go.Proofs.YtkggplnigjlegaaGreatDoor
open Go.RowKit Go.Gp

def insL (l : List Int) (i : Nat) (c : Int) : List Int := l.take i ++ c :: l.drop i
theorem insL_length (l : List Int) (i : Nat) (c : Int) (h : i ≤ l.length) : (insL l i c).length = l.length + 1 := by simp [insL]; omega
theorem elem1 : Tryz.prog.underlying 47 = some (.slice (Tryz.prog.elem 47)) := by kernel_rfl
theorem size1 (w : World) : (sizeOf (Tryz.prog.elem 47)).run Tryz.prog w = .ok 1 w := by kernel_rfl
theorem x_over (vb gg o n c : Nat) (hne : vb ≠ gg) (w : World) (tA tB : TypeId) (kA kB : Nat) (hsa : w.shape? vb = some (tA, kA)) (hsb : w.shape? gg = some (tB, kB)) (hk : kB ≠ 0) (hf : ∀ j, w.frozen? ⟨vb, j, none⟩ = false) :
    (callFunc 119 #[.slice (some ⟨vb, 0, none⟩) 1 1, .slice (some ⟨gg, o, none⟩) n c]).run Tryz.prog w = .ok (.value (.bool false)) w := by
  rw [run_callFunc_extern (e := Extern.SlicesOverlaps.overlaps #[47, 47] #[4]) Tryz.func119 (by kernel_rfl) (by kernel_rfl) (by kernel_rfl) (by kernel_rfl)]
  rw [Go.Lib.run_overlaps_apart w 47 4 21 Tryz.underlying47 1 (fun w => by kernel_rfl) ⟨vb, 0, none⟩ ⟨gg, o, none⟩ 1 1 n c hne tA tB kA kB hsa hsb hk (hf 0) (hf kA)]
  rfl
set_option maxRecDepth 100000 in
theorem insert_spec (p : Option Addr × Nat) (l : List Int) (i : Nat) (c : Int) (vb : Nat) (hn : l.length ≤ 1000000) (hi : i ≤ l.length) (w0 : World) (m0 : List Res) :
    Ct (α := Option Addr × Nat) Tryz.prog 92 [.slice p.1 l.length p.2, .int .i64 i, .slice (some ⟨vb, 0, none⟩) 1 1] w0 [OwnR p l, .own (some ⟨vb, 0, none⟩) 1 1 [.int .i32 c] 21 1] m0 (fun _ => True) (fun q => SlR q (insL l i c)) (fun q => [OwnR q (insL l i c)]) := by
  obtain ⟨A, cp⟩ := p
  dsimp only
  refine Ct.of Tryz.func92 rfl (by kernel_rfl) rfl ?_
  by_cases hin : i = l.length
  · subst hin
    have e0 : insL l l.length c = l ++ [c] := by rw [insL, List.take_length, List.drop_length]
    (refine c_sq fun k14 h14 => c_rg <| r_as rfl rfl <| r_nx h14 <| c_sq fun k16 h16 => c_rg <| r_mv rfl rfl <| r_mv rfl rfl ?_; rotate_left)
    refine r_sf elem1 size1 rfl rfl (by omega) (by omega) rfl ?_
    (refine r_nx h16 <| c_sq fun k18 h18 => c_rg <| r_mv rfl rfl <| r_ls Tryz.underlying47 rfl rfl <| r_as rfl rfl <| r_nx h18 <| c_sq fun k20 h20 => c_sq fun k22 h22 => c_rg <| r_mv rfl rfl <| r_eqF rfl rfl rfl (by omega) <| r_nx h22 <| c_cF rfl <| c_sk <| WE.then_n h20 <| c_sq fun k24 h24 => c_rg <| r_mv rfl rfl <| r_ls Tryz.underlying47 rfl rfl <| r_as rfl rfl <| r_nx h24 <| c_sq fun k26 h26 => c_sq fun k28 h28 => c_rg <| r_mv rfl rfl <| r_mv rfl rfl <| r_eqT rfl rfl rfl (by omega) <| r_nx h28 <| c_cT rfl <| c_sq fun k30 h30 => c_rg <| r_mv rfl rfl <| r_mv rfl rfl ?_; rotate_left)
    refine r_am (ys := [c]) 0 (z := .int .i32 0) (by_ := 4) (f := (.int .i32 ·)) Tryz.underlying47 (by kernel_rfl) rfl rfl rfl rfl (Rd.own 1 rfl) rfl (fun _ => rfl) (by omega) rfl (fun q _ => ?_)
    (refine r_as rfl rfl <| r_nx h30 <| c_rt <| WE.then_r ?_; rotate_left)
    exact WE.ret1 q rfl rfl (by rw [e0]; rfl) trivial (by rw [e0]; exact Mem.pick [0] (by decide) rfl)
  · (refine c_sq fun k13 h13 => c_rg ?_)
    refine WX.open 0 rfl (by omega) (fun gg cur hA hcl hct hnc hcm => ?_)
    subst hA
    refine WX.open 1 rfl (by omega) (fun g2 cv hv hcl2 hct2 _ _ => ?_)
    obtain rfl : vb = g2 := by injection hv with h1; injection h1
    have hcv : cv = [.int .i32 c] := by rw [← hct2, List.take_of_length_le (by omega)]
    subst hcv
    dsimp only at hcl hnc hcm
    have hP : cur.take i = runes (l.take i) := by
      have : (cur.take l.length).take i = (runes l).take i := by rw [hct]
      rw [List.take_take, Nat.min_eq_left (by omega)] at this
      rw [this, runes, ← List.map_take]
    have hD : (runes (l.drop i)).length = l.length - i := by simp
    have hcur : ∀ j v, (runes (l.drop i))[j]? = some v → cur[i + j]? = some v := by
      intro j v h
      have h2 : (runes l)[i + j]? = some v := by
        rw [runes, List.map_drop, List.getElem?_drop] at h
        exact h
      rw [← hct, List.getElem?_take] at h2
      split at h2
      · exact h2
      · cases h2
    have hins : runes (l.take i) ++ .int .i32 c :: runes (l.drop i) = runes (insL l i c) := by simp [insL]
    have hone : ∀ v ∈ runes (l.drop i), v.oneCell' = true := by
      intro v hv
      obtain ⟨a, _, rfl⟩ := List.mem_map.1 hv
      rfl
    have hc1 : ∀ v ∈ ([.int .i32 c] : List Value), v.oneCell' = true := by
      intro v hv
      rw [List.mem_singleton] at hv
      subst hv
      rfl
    have hlenI := insL_length l i c hi
    (refine r_as rfl rfl <| r_nx h13 <| c_sq fun k40 h40 => c_rg <| r_mv rfl rfl <| r_mv rfl rfl ?_; rotate_left)
    refine r_sf elem1 size1 rfl rfl (by omega) (by omega) rfl ?_
    by_cases hcap : l.length + 1 ≤ cp
    · (refine r_nx h40 <| c_sq fun k43 h43 => c_rg <| r_mv rfl rfl <| r_ls Tryz.underlying47 rfl rfl <| r_as rfl rfl <| r_nx h43 <| c_sq fun k45 h45 => c_sq fun k47 h47 => c_rg <| r_mv rfl rfl <| r_eqF rfl rfl rfl (by omega) <| r_nx h47 <| c_cF rfl <| c_sk <| WE.then_n h45 <| c_sq fun k49 h49 => c_rg <| r_mv rfl rfl <| r_ls Tryz.underlying47 rfl rfl <| r_as rfl rfl <| r_nx h49 <| c_sq fun k51 h51 => c_sq fun k53 h53 => c_rg <| r_mv rfl rfl <| r_mv rfl rfl <| r_eqF rfl rfl rfl (by omega) <| r_nx h53 <| c_cF rfl <| c_sk <| WE.then_n h51 <| c_sq fun k55 h55 => c_sq fun k57 h57 => c_rg <| r_mv rfl rfl <| r_mv rfl rfl <| r_ad rfl rfl rfl (wadd64 (by omega)) <| r_mv rfl rfl ?_; rotate_left)
      refine r_cp Tryz.underlying47 rfl rfl ?_
      (refine r_gtF rfl rfl rfl (by omega) <| r_nx h57 <| c_cF rfl <| c_sk <| WE.then_n h55 <| c_sq fun k59 h59 => c_rg <| r_mv rfl rfl <| r_mv rfl rfl <| r_mv rfl rfl <| r_ad rfl rfl rfl (wadd64 (by omega)) ?_; rotate_left)
      refine r_st0 (l.length + 1) elem1 size1 rfl rfl (by omega) hcap rfl ?_
      (refine r_as rfl rfl <| r_nx h59 <| c_sq fun k61 h61 => c_sq fun k63 h63 => c_rg <| r_mv rfl rfl <| r_mv rfl rfl <| r_mv rfl rfl <| r_mv rfl rfl <| r_ad rfl rfl rfl (wadd64 (by omega)) ?_; rotate_left)
      refine r_sfj (i + 1) elem1 size1 rfl rfl (by omega) (by omega) (by omega) rfl ?_
      refine r_xm (v := .bool false) rfl rfl (fun w hw => x_over vb gg (i + 1) _ _ (fun e => hw.apart 1 0 _ _ (by decide) rfl rfl vb rfl (by rw [e]; rfl)) w _ _ _ _ (hw.shape 1 rfl) (hw.shape 0 rfl) (by omega) (fun j => frozen_of_row w vb j _ _ (hw.all 1 _ rfl).2)) rfl ?_
      (refine r_no rfl rfl rfl <| r_nx h63 <| c_cT rfl <| c_sq fun k65 h65 => ?_)
      refine WC.stail 8 rfl (by kernel_rfl) (by kernel_rfl) ?_
      refine WS.q (d := 69) (Qv.move rfl) rfl rfl rfl ?_
      refine WS.q (d := 70) (Qv.move rfl) rfl rfl rfl ?_
      refine WS.q (d := 71) (Qv.move rfl) rfl rfl rfl ?_
      refine WS.q (d := 72) (Qv.add rfl rfl (wadd64 (a := (i : Int)) (b := ((1 : Nat) : Int)) (by omega))) rfl rfl rfl ?_
      refine WS.q (d := 73) (Qv.sfj (i + 1) elem1 size1 rfl rfl (by omega) (by omega) (by omega)) rfl rfl rfl ?_
      refine WS.q (d := 74) (Qv.move rfl) rfl rfl rfl ?_
      refine WS.q (d := 75) (Qv.move rfl) rfl rfl rfl ?_
      refine WS.q (d := 76) (Qv.sfj i elem1 size1 rfl rfl rfl (by omega) (by omega)) rfl rfl rfl ?_
      refine WS.nil ?_
      refine WT.ev (d := 77) (Ev.copy 0 (vs := runes (l.drop i)) Tryz.underlying47 (by kernel_rfl) rfl rfl rfl (fun w hw j v hj => by rw [addr_add2]; exact hw.rowCell 0 rfl (hcur j v hj)) (by have := Nat.min_eq_right (a := l.length + 1 - i) (b := l.length + 1 - (i + 1)) (by omega); rw [hD]; show l.length - i = min _ _; rw [this]; omega) (by rw [hD]; omega) hone rfl) rfl rfl rfl (fun _ _ => ?_)
      refine WT.nil ?_
      (refine WE.then_n h65 <| c_sq fun k69 h69 => c_rg <| r_mv rfl rfl <| r_mv rfl rfl ?_; rotate_left)
      refine r_sfj i elem1 size1 rfl rfl rfl (by omega) (by omega) rfl ?_
      (refine r_mv rfl rfl ?_; rotate_left)
      refine r_cpy 0 [.int .i32 c] Tryz.underlying47 (by kernel_rfl) rfl rfl rfl (fun w hw j v hj => by rw [addr_add]; exact hw.rowCell 1 rfl hj) (by show 1 = min 1 _; omega) (by simp; omega) hc1 rfl rfl ?_
      (refine r_nx h69 <| c_sq fun k71 h71 => c_rg <| r_mv rfl rfl <| r_as rfl rfl <| r_nx h71 <| c_rt <| WE.then_r ?_; rotate_left)
      refine WE.ret1 (some ⟨gg, 0, none⟩, cp) rfl rfl (by show _ = some (Value.slice (some ⟨gg, 0, none⟩) (insL l i c).length cp); rw [hlenI]; rfl) trivial (fun w hw => ?_)
      have hfin := ins_B cur (runes (l.drop i)) (runes (l.take i)) (.int .i32 c) i hP (by simp; omega) (by omega)
      rw [hins] at hfin
      have h2 := Mem.shut 0 (n := i + 1 + (runes (l.drop i)).length) (c := cp) rfl (by simp; omega) (by omega) hcm hw
      rw [hfin] at h2
      have hO : OwnR (some ⟨gg, 0, none⟩, cp) (insL l i c) = .own (some ⟨gg, 0, none⟩) cp (i + 1 + (runes (l.drop i)).length) (runes (insL l i c)) 21 1 := by
        show Res.own _ _ (insL l i c).length _ _ _ = _
        rw [hlenI, show l.length + 1 = i + 1 + (runes (l.drop i)).length by rw [hD]; omega]
      show Mem w0 ([OwnR (some ⟨gg, 0, none⟩, cp) (insL l i c)] ++ m0) w
      rw [hO]
      exact Mem.pick [0] (by decide) rfl w h2
    · have hcp : cp = l.length := by omega
      subst hcp
      (refine r_nx h40 <| c_sq fun k46 h46 => c_rg <| r_mv rfl rfl <| r_ls Tryz.underlying47 rfl rfl <| r_as rfl rfl <| r_nx h46 <| c_sq fun k48 h48 => c_sq fun k50 h50 => c_rg <| r_mv rfl rfl <| r_eqF rfl rfl rfl (by omega) <| r_nx h50 <| c_cF rfl <| c_sk <| WE.then_n h48 <| c_sq fun k52 h52 => c_rg <| r_mv rfl rfl <| r_ls Tryz.underlying47 rfl rfl <| r_as rfl rfl <| r_nx h52 <| c_sq fun k54 h54 => c_sq fun k56 h56 => c_rg <| r_mv rfl rfl <| r_mv rfl rfl <| r_eqF rfl rfl rfl (by omega) <| r_nx h56 <| c_cF rfl <| c_sk <| WE.then_n h54 <| c_sq fun k58 h58 => c_sq fun k60 h60 => c_rg <| r_mv rfl rfl <| r_mv rfl rfl <| r_ad rfl rfl rfl (wadd64 (by omega)) <| r_mv rfl rfl ?_; rotate_left)
      refine r_cp Tryz.underlying47 rfl rfl ?_
      (refine r_gtT rfl rfl rfl (by omega) <| r_nx h60 <| c_cT rfl <| c_sq fun k62 h62 => c_rg <| r_mv rfl rfl <| r_mv rfl rfl ?_; rotate_left)
      refine r_st0 i elem1 size1 rfl rfl rfl (by omega) rfl ?_
      (refine r_mv rfl rfl <| r_mv rfl rfl <| r_ad rfl rfl rfl (wadd64 (by omega)) <| r_mv rfl rfl <| r_su rfl rfl rfl (wsub64 (by omega)) ?_; rotate_left)
      refine r_zr (kk := l.length + 1 - i) (zv := .int .i32 0) (runes (l.take i)) Tryz.underlying47 Tryz.underlying3 (by kernel_rfl) rfl rfl rfl (by omega) (fun w hw j v hj => ?_) (by simp; omega) (by omega) (by omega) (by omega) rfl (fun q => ?_)
      · have hj2 : (cur.take i)[j]? = some v := by rw [hP]; exact hj
        rw [List.getElem?_take] at hj2
        split at hj2
        · exact hw.rowCell 0 rfl hj2
        · cases hj2
      obtain ⟨g2, c2⟩ := q
      dsimp only
      refine WX.open 0 rfl (by omega) (fun g3 cur3 hv3 hcl3 hct3 hnc3 hcm3 => ?_)
      obtain rfl : g2 = g3 := by injection hv3 with h1; injection h1
      have hP3 : cur3.take i = runes (l.take i) := by
        have h1 : (cur3.take (i + (l.length + 1 - i))).take i = runes (l.take i) := by
          rw [hct3]
          exact List.take_left' (by simp; omega)
        rw [List.take_take, Nat.min_eq_left (by omega)] at h1
        exact h1
      (refine r_as rfl rfl <| r_nx h62 <| c_sq fun k75 h75 => c_rg <| r_mv rfl rfl <| r_mv rfl rfl ?_; rotate_left)
      refine r_sfj i elem1 size1 rfl rfl rfl (by omega) (by omega) rfl ?_
      (refine r_mv rfl rfl ?_; rotate_left)
      refine r_cpy 0 [.int .i32 c] Tryz.underlying47 (by kernel_rfl) rfl rfl rfl (fun w hw j v hj => by rw [addr_add]; exact hw.rowCell 2 rfl hj) (by show 1 = min 1 _; omega) (by simp; omega) hc1 rfl rfl ?_
      (refine r_nx h75 <| c_sq fun k77 h77 => ?_)
      refine WC.stail 8 rfl (by kernel_rfl) (by kernel_rfl) ?_
      refine WS.q (d := 46) (Qv.move rfl) rfl rfl rfl ?_
      refine WS.q (d := 47) (Qv.move rfl) rfl rfl rfl ?_
      refine WS.q (d := 48) (Qv.move rfl) rfl rfl rfl ?_
      refine WS.q (d := 49) (Qv.add rfl rfl (wadd64 (a := (i : Int)) (b := ((1 : Nat) : Int)) (by omega))) rfl rfl rfl ?_
      refine WS.q (d := 50) (Qv.sfj (i + 1) elem1 size1 rfl rfl (by omega) (by omega) (by omega)) rfl rfl rfl ?_
      refine WS.q (d := 51) (Qv.move rfl) rfl rfl rfl ?_
      refine WS.q (d := 52) (Qv.move rfl) rfl rfl rfl ?_
      refine WS.q (d := 53) (Qv.sfj i elem1 size1 rfl rfl rfl (by omega) (by omega)) rfl rfl rfl ?_
      refine WS.nil ?_
      refine WT.ev (d := 54) (Ev.copy 0 (vs := runes (l.drop i)) Tryz.underlying47 (by kernel_rfl) rfl rfl rfl (fun w hw j v hj => by rw [addr_add2]; exact hw.rowCell 1 rfl (hcur j v hj)) (by have := Nat.min_eq_left (a := l.length - i) (b := i + (l.length + 1 - i) - (i + 1)) (by omega); rw [hD]; show l.length - i = min _ _; rw [this]) (by rw [hD]; simp; omega) hone rfl) rfl rfl rfl (fun _ _ => ?_)
      refine WT.nil ?_
      (refine WE.then_n h77 <| c_sq fun k81 h81 => c_rg <| r_mv rfl rfl <| r_as rfl rfl <| r_nx h81 <| c_rt <| WE.then_r ?_; rotate_left)
      refine WE.ret1 (some ⟨g2, 0, none⟩, c2) rfl rfl (congrArg (fun n => some (Value.slice (some ⟨g2, 0, none⟩) n c2)) (show i + (l.length + 1 - i) = (insL l i c).length by rw [hlenI]; omega)) trivial (fun w hw => ?_)
      have hfin := ins_A cur3 (runes (l.drop i)) (runes (l.take i)) (.int .i32 c) i hP3 (by simp; omega) (by omega)
      rw [hins] at hfin
      have h2 := Mem.shut 0 (n := i + 1 + (runes (l.drop i)).length) (c := c2) rfl (by simp; omega) (by omega) hcm3 hw
      rw [hfin] at h2
      have hO : OwnR (some ⟨g2, 0, none⟩, c2) (insL l i c) = .own (some ⟨g2, 0, none⟩) c2 (i + 1 + (runes (l.drop i)).length) (runes (insL l i c)) 21 1 := by
        show Res.own _ _ (insL l i c).length _ _ _ = _
        rw [hlenI, show l.length + 1 = i + 1 + (runes (l.drop i)).length by rw [hD]; omega]
      show Mem w0 ([OwnR (some ⟨g2, 0, none⟩, c2) (insL l i c)] ++ m0) w
      rw [hO]
      exact Mem.pick [0] (by decide) rfl w h2
end Go.Proofs.YtkggplnigjlegaaGreatDoor

/- A list cut at a number, in plain Lean; readable slices cut; memory in another order; errors that may be read. -/
set_option linter.unusedVariables false
namespace Go.Proofs.YtkggplnigjlegaaGreatDoor
open Go.RowKit Go.Gp

/-- A list cut at every v. -/
def splitP (v : Int) : List Int → List (List Int)
  | [] => [[]]
  | x :: r => if v = x then [] :: splitP v r else match splitP v r with | [] => [[x]] | p :: ps => (x :: p) :: ps
theorem splitP_ne (v : Int) (l : List Int) : splitP v l ≠ [] := by
  cases l with
  | nil => simp [splitP]
  | cons x r =>
    rw [splitP]
    split
    · simp
    · split <;> simp
theorem idxP_cons (v x : Int) (r : List Int) : idxP v (x :: r) = if v = x then 0 else if idxP v r < 0 then -1 else idxP v r + 1 := by
  unfold idxP findFrom
  rw [List.findIdx?_cons]
  by_cases h : v = x
  · simp [h]
  · simp only [h, decide_false, Bool.false_eq_true, if_false]
    cases hr : r.findIdx? (fun c => decide (v = c)) with
    | none => simp
    | some i =>
      simp only [Option.map_some]
      rw [if_neg (by omega)]
      simp
theorem splitP_no (v : Int) : ∀ l : List Int, idxP v l < 0 → splitP v l = [l]
  | [], _ => rfl
  | x :: r, h => by
    rw [idxP_cons] at h
    split at h
    · omega
    · rename_i hx
      split at h
      · rename_i hr
        rw [splitP, if_neg hx, splitP_no v r hr]
      · omega
theorem splitP_at (v : Int) : ∀ l : List Int, 0 ≤ idxP v l → (idxP v l).toNat < l.length ∧ splitP v l = l.take (idxP v l).toNat :: splitP v (l.drop ((idxP v l).toNat + 1))
  | [], h => by simp [idxP, findFrom] at h
  | x :: r, h => by
    rw [idxP_cons] at h ⊢
    by_cases hx : v = x
    · simp only [hx, if_true]
      refine ⟨by simp, ?_⟩
      rw [splitP, if_pos rfl]
      rfl
    · rw [if_neg hx] at h ⊢
      by_cases hr : idxP v r < 0
      · rw [if_pos hr] at h
        omega
      · rw [if_neg hr] at h ⊢
        obtain ⟨h1, h2⟩ := splitP_at v r (by omega)
        have e : (idxP v r + 1).toNat = (idxP v r).toNat + 1 := by omega
        rw [e]
        refine ⟨by rw [List.length_cons]; omega, ?_⟩
        rw [splitP, if_neg hx, h2]
        rfl
theorem idxP_bd (v : Int) (l : List Int) : -1 ≤ idxP v l ∧ idxP v l < l.length := by
  unfold idxP findFrom
  cases hr : l.findIdx? (fun c => decide (v = c)) with
  | none => simp only; omega
  | some i =>
    have := (List.findIdx?_eq_some_iff_getElem.1 hr).1
    simp only
    omega
theorem splitP_len (v : Int) (l : List Int) : (splitP v l).length ≤ l.length + 1 ∧ ∀ p ∈ splitP v l, p.length ≤ l.length ∧ ∀ x ∈ p, x ∈ l := by
  induction l with
  | nil => simp [splitP]
  | cons x r ih =>
    obtain ⟨h1, h2⟩ := ih
    rw [splitP]
    split
    · refine ⟨by simp; omega, fun p hp => ?_⟩
      rcases List.mem_cons.1 hp with hp | hp
      · subst hp; simp
      · have := h2 p hp
        exact ⟨by simp; omega, fun y hy => List.mem_cons_of_mem _ (this.2 y hy)⟩
    · split
      · rename_i hs
        exact absurd hs (splitP_ne v r)
      · rename_i p ps hs
        rw [hs] at h1 h2
        refine ⟨by simp at h1 ⊢; omega, fun q hq => ?_⟩
        rcases List.mem_cons.1 hq with hq | hq
        · subst hq
          have := h2 p (by simp)
          refine ⟨by simp; omega, fun y hy => ?_⟩
          rcases List.mem_cons.1 hy with hy | hy
          · simp [hy]
          · exact List.mem_cons_of_mem _ (this.2 y hy)
        · have := h2 q (by simp [hq])
          exact ⟨by simp; omega, fun y hy => List.mem_cons_of_mem _ (this.2 y hy)⟩

/-- A part of a slice that can be read. -/
def subA (A : Option Addr) (lo c : Nat) : Option Addr := if c = lo then A else A.map (·.add (lo * 1))
theorem sliced_sub (A : Option Addr) (lo hi c : Nat) : sliced A lo hi c 1 = .slice (subA A lo c) (hi - lo) (c - lo) := rfl
theorem _root_.Go.Gp.Rd.sub {w0 : World} {m : List Res} {A : Option Addr} {xs : List Value} (h : Rd w0 m A xs) (lo k c : Nat) (hc : xs.length ≤ c) : Rd w0 m (subA A lo c) ((xs.drop lo).take k) := by
  unfold Rd at h ⊢
  intro w hw j v hj
  have hjk : j < k := by
    have := (List.getElem?_eq_some_iff.1 hj).1
    simp at this
    omega
  have h2 : xs[lo + j]? = some v := by
    rw [List.getElem?_take_of_lt hjk, List.getElem?_drop] at hj
    exact hj
  obtain ⟨a, ha, hcell⟩ := h w hw (lo + j) v h2
  have hlt := (List.getElem?_eq_some_iff.1 h2).1
  unfold subA
  rw [if_neg (by omega)]
  exact ⟨a.add (lo * 1), by rw [ha]; rfl, by rw [Addr.add_add, Nat.mul_one]; exact hcell⟩
theorem _root_.Go.Gp.Rd.mono {w0 : World} {m m' : List Res} {A : Option Addr} {xs : List Value} (h : Rd w0 m' A xs) (hM : ∀ w, Mem w0 m w → Mem w0 m' w) : Rd w0 m A xs := by
  unfold Rd at h ⊢
  exact fun w hw => h w (hM w hw)
theorem EcR.mono {w0 : World} {m m' : List Res} {n : Int} (hM : ∀ w, Mem w0 m w → Mem w0 m' w) : ∀ {L : List (Nat × ByteArray)}, EcR w0 m' L n → EcR w0 m L n
  | [], _ => trivial
  | (_, _) :: _, h => ⟨Rd.mono h.1 hM, EcR.mono hM h.2⟩
theorem EcR.own {w0 : World} {m : List Res} {n : Int} : ∀ L : List (Nat × ByteArray), EcR w0 (ecm L n ++ m) L n
  | [] => trivial
  | (_, _) :: r => ⟨Rd.blk 0 rfl, EcR.mono (fun _ hw => Mem.tail hw) (EcR.own r)⟩

/-- Memory in another order. -/
theorem apart_symm {r s : Res} (h : r.apart s) : s.apart r := fun g h1 h2 => h g h2 h1
theorem _root_.Go.Gp.Mem.perm {w0 w : World} {m m' : List Res} (h : Mem w0 m w) (p : m.Perm m') : Mem w0 m' w := by
  have pw : m.Pairwise Res.apart := by
    rw [List.pairwise_iff_getElem]
    intro i j hi hj hij
    exact h.apart i j _ _ (by omega) (List.getElem?_eq_getElem hi) (List.getElem?_eq_getElem hj)
  have pw' := (p.pairwise_iff (fun h => apart_symm h)).1 pw
  have all : ∀ r ∈ m, r.at w0.heap.size w := fun r hr => by
    obtain ⟨i, hi, e⟩ := List.mem_iff_getElem.1 hr
    exact h.all i r (by rw [← e]; exact List.getElem?_eq_getElem hi)
  rw [List.pairwise_iff_getElem] at pw'
  refine ⟨h.below, fun i r hi => ?_, fun i j r s hij hi hj => ?_⟩
  · obtain ⟨hlt, e⟩ := List.getElem?_eq_some_iff.1 hi
    exact all r (p.symm.subset (by rw [← e]; exact List.getElem_mem hlt))
  · obtain ⟨hlt, e⟩ := List.getElem?_eq_some_iff.1 hi
    obtain ⟨hlt', e'⟩ := List.getElem?_eq_some_iff.1 hj
    subst e e'
    rcases Nat.lt_or_gt_of_ne hij with hh | hh
    · exact pw' i j hlt hlt' hh
    · exact apart_symm (pw' j i hlt' hlt hh)
/-- The first one last. -/
theorem _root_.Go.Gp.Mem.rot {w0 : World} {r : Res} {J m0 : List Res} : ∀ w, Mem w0 ((r :: J) ++ m0) w → Mem w0 ((J ++ [r]) ++ m0) w := fun w h =>
  h.perm (List.Perm.append_right m0 (List.perm_append_singleton r J).symm)
theorem _root_.Go.Gp.Mem.unrot {w0 : World} {r : Res} {J m0 : List Res} : ∀ w, Mem w0 ((J ++ [r]) ++ m0) w → Mem w0 ((r :: J) ++ m0) w := fun w h =>
  h.perm (List.Perm.append_right m0 (List.perm_append_singleton r J))
/-- A slice of the call's own is no longer than its room. -/
theorem _root_.Go.Gp.WX.room {C : Cx} {Q : Po} {l : List (Nat × Value)} {m : List Res} {ops : Array Oper} {rest : List Oper} (i : Nat) {A : Option Addr} {c n : Nat} {xs : List Value} {e : TypeId} (hi : m[i]? = some (.own A c n xs e 1)) (h : n ≤ c → WX false C Q ops rest l m) : WX false C Q ops rest l m := by
  unfold WX WL at h ⊢
  intro a w hs
  refine h ?_ a w hs
  have hlt : i < m.length := (List.getElem?_eq_some_iff.1 hi).1
  have hi' : (m ++ C.m0)[i]? = some (.own A c n xs e 1) := by rw [List.getElem?_append_left hlt]; exact hi
  have hown : w.ownsRow C.w0.heap.size e 1 (.slice A n c) n xs := hs.2.all i _ hi'
  rcases hown.2 with ⟨_, h0⟩ | ⟨gg, cap, cur, hv, hb, hg, hnc, hcm, hcs, htake⟩
  · omega
  · injection hv with h1 h2 h3
    omega
end Go.Proofs.YtkggplnigjlegaaGreatDoor

/- label.parts's iterator: the walk, for whatever loop body. -/
namespace Go.Proofs.YtkggplnigjlegaaGreatDoor
open Go.RowKit Go.Gp

/-- The rounds of a loop over a list: each may be the last one. -/
def Runs {σ X : Type} (R : σ → X → σ → Bool → Prop) : List X → σ → σ → Prop
  | [], s, t => s = t
  | p :: ps, s, t => ∃ s' b, R s p s' b ∧ (if b = true then Runs R ps s' t else s' = t)

set_option maxRecDepth 100000 in
theorem parts1_spec {σ : Type} (lp b : Nat) (J : σ → List Res) (pre : List (List Int) → σ → Prop) (R : σ → List Int → σ → Bool → Prop) (f : List Int) (A : Option Addr) (c : Nat) (hn : f.length ≤ 1000000000) (hc : f.length ≤ c) (w0 : World) (m0 : List Res) (hA : Rd w0 m0 A (runes f)) (s0 : σ) (h0 : pre (splitP 46 f) s0)
    (hpre : ∀ s p ps s', pre (p :: ps) s → R s p s' true → pre ps s')
    (hY : ∀ (s : σ) (p : List Int) (ps : List (List Int)) (B : Option Addr) (c' : Nat) (mm : List Res), pre (p :: ps) s → p.length ≤ c' → Rd w0 (mm ++ m0) B (runes p) → YCt Tryz.prog lp [.slice B p.length c'] w0 (J s) (mm ++ m0) (fun x : σ × Bool => R s p x.1 x.2) (fun x => .bool x.2) (fun x => J x.1)) :
    Ct (α := σ) Tryz.prog 55 [.func (.yield lp) #[] #[], .pointer (some ⟨b, 0, none⟩)] w0 (.blk b [.slice A f.length c] 47 :: J s0) m0 (fun t => Runs R (splitP 46 f) s0 t) (fun _ => .tuple #[]) J := by
  refine Ct.of Tryz.func55 rfl (by kernel_rfl) rfl ?_
  (refine c_bl ?_; rotate_left)
  refine WC.loop (α := Option Addr × Nat × List Int × σ) (fun x => [(0, .func (.yield lp) #[] #[]), (1, .pointer (some ⟨b, 0, none⟩))]) (fun x => .blk b [.slice x.1 x.2.2.1.length x.2.1] 47 :: J x.2.2.2)
    (fun x => pre (splitP 46 x.2.2.1) x.2.2.2 ∧ x.2.2.1.length ≤ x.2.1 ∧ x.2.2.1.length ≤ 1000000000 ∧ Rd w0 m0 x.1 (runes x.2.2.1) ∧ ∀ t, Runs R (splitP 46 x.2.2.1) x.2.2.2 t → Runs R (splitP 46 f) s0 t)
    (fun x => x.2.2.1.length) (A, c, f, s0) ⟨h0, hc, hn, hA, fun _ h => h⟩ ⟨rfl, rfl, trivial⟩ Mem.keep ?_
  rintro ⟨B, d, l, s⟩ ⟨hp, hd, hl, hB, hruns⟩
  dsimp only at hp hd hl hB hruns ⊢
  have hbd := idxP_bd 46 l
  (refine c_bl <| c_sq fun k29 h29 => c_rg <| r_lb 0 Tryz.underlying47 rfl rfl rfl rfl rfl ?_; rotate_left)
  refine WX.pure rfl rfl (index_spec B d l 46 (by omega) _ _ (hB.app _)) rfl rfl ?_
  by_cases hi : idxP 46 l < 0
  · have hs := splitP_no 46 l hi
    rw [hs] at hp hruns
    (refine r_as rfl rfl <| r_nx h29 <| c_sq fun k35 h35 => c_sq fun k37 h37 => c_rg <| r_mv rfl rfl <| r_ltT rfl rfl rfl (by omega) <| r_nx h37 <| c_cT rfl <| c_sq fun k39 h39 => c_rg <| r_mv rfl rfl <| r_lb 0 Tryz.underlying47 rfl rfl rfl rfl rfl ?_; rotate_left)
    refine WX.mem Mem.rot ?_
    refine WX.yield (m1 := J s) (m2 := [.blk b [.slice B l.length d] 47]) rfl rfl rfl (hY s l [] B d [.blk b [.slice B l.length d] 47] hp hd (hB.app _)) rfl rfl ?_
    rintro ⟨s', bb⟩ hR
    dsimp only at hR ⊢
    (refine r_nx h39 <| c_rt <| WE.then_r <| WE.blk_r <| WE.then_r <| WE.blk_r ?_; rotate_left)
    exact WE.ret0 s' rfl rfl rfl (hruns s' ⟨s', bb, hR, by cases bb <;> rfl⟩) (fun w hw => Mem.tail (Mem.unrot w hw))
  · obtain ⟨hk, hs⟩ := splitP_at 46 l (by omega)
    rw [hs] at hp hruns
    generalize hke : idxP 46 l = k at hi hk hs hp hruns hbd ⊢
    have hlt : (l.take k.toNat).length = k.toNat - 0 := by simp; omega
    have hB1 := hB.sub 0 (k.toNat - 0) d (by simpa using hd)
    (refine r_as rfl rfl <| r_nx h29 <| c_sq fun k43 h43 => c_sq fun k45 h45 => c_rg <| r_mv rfl rfl <| r_ltF rfl rfl rfl (by omega) <| r_nx h45 <| c_cF rfl <| c_sk <| WE.then_n h43 <| c_sq fun k47 h47 => c_sq fun k49 h49 => c_rg <| r_mv rfl rfl <| r_lb 0 Tryz.underlying47 rfl rfl rfl rfl rfl <| r_mv rfl rfl ?_; rotate_left)
    refine r_sto elem1 size1 rfl rfl (by omega) (by omega) rfl ?_
    rw [sliced_sub, ← hlt]
    refine WX.mem Mem.rot ?_
    refine WX.yield (m1 := J s) (m2 := [.blk b [.slice B l.length d] 47]) rfl rfl rfl (hY s (l.take k.toNat) _ (subA B 0 d) (d - 0) [.blk b [.slice B l.length d] 47] hp (by omega) (Rd.app (by rw [runes, List.map_take]; simpa using hB1) _)) rfl rfl ?_
    rintro ⟨s', bb⟩ hR
    dsimp only at hR ⊢
    cases bb
    · (refine r_no rfl rfl rfl <| r_nx h49 <| c_cT rfl <| c_rt <| WE.then_r <| WE.blk_r <| WE.then_r <| WE.blk_r ?_; rotate_left)
      exact WE.ret0 s' rfl rfl rfl (hruns s' ⟨s', false, hR, rfl⟩) (fun w hw => Mem.tail (Mem.unrot w hw))
    · refine WX.mem Mem.unrot ?_
      (refine r_no rfl rfl rfl <| r_nx h49 <| c_cF rfl <| c_sk <| WE.then_n h47 <| c_rg <| r_lb 0 Tryz.underlying47 rfl rfl rfl rfl rfl <| r_mv rfl rfl <| r_ad rfl rfl rfl (wadd64 (by omega)) ?_; rotate_left)
      refine r_sf elem1 size1 rfl rfl (by omega) (by omega) rfl ?_
      rw [sliced_sub]
      have e1 : (k + 1).toNat = k.toNat + 1 := by omega
      have e2 : (l.drop (k.toNat + 1)).length = l.length - (k.toNat + 1) := by simp
      rw [e1, ← e2]
      (refine r_st 0 (by kernel_rfl) rfl rfl rfl rfl rfl rfl rfl <| r_nl <| WE.blk_n ?_; rotate_left)
      exact WE.back (subA B (k.toNat + 1) d, d - (k.toNat + 1), l.drop (k.toNat + 1), s') ⟨hpre _ _ _ _ hp hR, by dsimp only; omega, by dsimp only; omega, by
        have := hB.sub (k.toNat + 1) (l.length - (k.toNat + 1)) d (by simpa using hd)
        rw [List.take_of_length_le (by simp)] at this
        dsimp only
        rw [runes, List.map_drop]
        exact this, fun t ht => hruns t ⟨s', true, hR, ht⟩⟩ (by dsimp only; omega) ⟨rfl, rfl, trivial⟩ Mem.keep
end Go.Proofs.YtkggplnigjlegaaGreatDoor

/- Code points of a name folded: the contract of fold.Fold. -/
namespace Go.Proofs.YtkggplnigjlegaaGreatDoor
open Go.RowKit Go.Gp

def okAll (l : List Int) : Bool := l.all fun c => (mapP c).2
def mapAll (l : List Int) : List Int := l.flatMap fun c => (mapP c).1
theorem mapP_short (c : Int) : (mapP c).1.length ≤ 2 := by
  have h1 : ∀ c d : Int, (map1 c d).1.length ≤ 2 := by
    intro c d
    by_cases a1 : d = -1
    · simp [map1, a1]
    by_cases a2 : d = -2
    · simp [map1, a2]
    by_cases a3 : d = -3
    · simp [map1, a3]
    by_cases a4 : d = -5
    · simp [map1, a4]
    simp [map1, a1, a2, a3, a4]
  unfold mapP; split <;> exact h1 _ _
theorem mapAll_length (l : List Int) : (mapAll l).length ≤ 2 * l.length := by
  induction l with
  | nil => simp [mapAll]
  | cons c l ih =>
    have := mapP_short c
    simp only [mapAll, List.flatMap_cons, List.length_append, List.length_cons] at ih ⊢
    omega
theorem mapAll_snoc (l : List Int) (c : Int) : mapAll (l ++ [c]) = mapAll l ++ (mapP c).1 := by simp [mapAll]
theorem okAll_snoc (l : List Int) (c : Int) : okAll (l ++ [c]) = (okAll l && (mapP c).2) := by simp [okAll]
/-- Every number is a rune's. -/
def R32 (l : List Int) : Prop := ∀ i, i < l.length → -2147483648 ≤ l.getD i 0 ∧ l.getD i 0 ≤ 2147483647
def sFold : ByteArray := ⟨#[102, 111, 108, 100]⟩

set_option maxRecDepth 100000 in
theorem fold_ok (A : Option Addr) (c : Nat) (l : List Int) (hn : l.length ≤ 1000000000) (hl : R32 l) (hok : okAll l = true) (w0 : World) (m0 : List Res) (hA : Rd w0 m0 A (runes l)) :
    Ct (α := Option Addr × Nat) Tryz.prog 34 [.slice A l.length c] w0 [] m0 (fun _ => True) (fun p => .tuple #[SlR p (compR (mapAll l)), .nilIface]) (fun p => [OwnR p (compR (mapAll l))]) := by
  refine Ct.of Tryz.func34 rfl (by kernel_rfl) rfl ?_
  (refine c_sq fun k10 h10 => c_rg <| r_as rfl rfl <| r_as rfl rfl <| r_nx h10 <| c_sq fun k12 h12 => c_rg <| r_as rfl rfl <| r_nx h12 <| c_sq fun k14 h14 => c_sq fun k16 h16 => c_rg <| r_mv rfl rfl <| r_ls Tryz.underlying47 rfl rfl <| r_mv rfl rfl <| r_nx h16 <| c_bl ?_; rotate_left)
  refine WC.loop (α := Nat × (Option Addr × Nat)) (fun x => [(9, .slice A l.length c), (10, .int .i64 l.length), (11, .int .i64 x.1), (4, SlR x.2 (mapAll (l.take x.1)))])
    (fun x => [OwnR x.2 (mapAll (l.take x.1))]) (fun x => x.1 ≤ l.length) (fun x => l.length - x.1) (0, (none, 0)) (by simp) ⟨rfl, rfl, rfl, rfl, trivial⟩ (Mem.nilOwn _ _) ?_
  rintro ⟨i, p⟩ hi
  dsimp only at hi ⊢
  by_cases hlt : i < l.length
  · have hc := mapAll_length (l.take i)
    have hc' : (l.take i).length ≤ i := List.length_take_le _ _
    have hs := mapP_short (l.getD i 0)
    have hb := hl i hlt
    have ht : (mapP (l.getD i 0)).2 = true := by
      have h1 : okAll (l.take (i + 1)) = true := by
        unfold okAll at hok ⊢
        rw [List.all_eq_true] at hok ⊢
        exact fun x hx => hok x (List.mem_of_mem_take hx)
      rw [take_next hlt, okAll_snoc] at h1
      simpa using (Bool.and_eq_true _ _ ▸ h1).2
    (refine c_sq fun k27 h27 => c_rg <| r_ltT rfl rfl rfl (by omega) <| r_nx h27 <| c_sq fun k29 h29 => c_cT rfl <| c_sk <| WE.then_n h29 <| c_sq fun k31 h31 => c_bl <| c_sq fun k33 h33 => c_rg <| r_im (hA.app _) Tryz.underlying47 (by kernel_rfl) rfl rfl rfl rfl (by omega) (by omega) <| r_li (i) (hA.app _) Tryz.underlying21 rfl rfl rfl (by omega) <| r_as rfl rfl <| r_nx h33 <| c_sq fun k35 h35 => c_rg <| r_mv rfl rfl ?_; rotate_left)
    refine WX.call (m1 := []) (m2 := [OwnR p (mapAll (l.take i))]) rfl rfl rfl (map_spec (l.getD i 0) hb.1 hb.2 _ _) rfl rfl (fun q _ => ?_)
    rw [ht]
    (refine r_mv rfl rfl <| r_ex rfl rfl rfl <| r_ex rfl rfl rfl <| r_as rfl rfl <| r_as rfl rfl <| r_nx h35 <| c_sq fun k39 h39 => c_sq fun k41 h41 => c_rg <| r_mv rfl rfl <| r_no rfl rfl rfl <| r_nx h41 <| c_cF rfl <| c_sk <| WE.then_n h39 <| c_rg <| r_mv rfl rfl <| r_mv rfl rfl ?_; rotate_left)
    refine r_am (ys := (mapP (l.getD i 0)).1) 1 (z := .int .i32 0) (by_ := 4) (f := (.int .i32 ·)) Tryz.underlying47 (by kernel_rfl) rfl rfl rfl rfl (Rd.own 0 rfl) rfl (fun _ => rfl) (by omega) rfl (fun r _ => ?_)
    rw [← mapAll_snoc, ← take_next hlt]
    (refine r_as rfl rfl <| r_nl <| WE.blk_n <| WE.then_n h31 <| c_rg <| r_ad rfl rfl rfl (wadd64 (by omega)) <| r_mv rfl rfl <| r_nl ?_; rotate_left)
    exact WE.back (i + 1, r) (by dsimp only; omega) (by dsimp only; omega) ⟨rfl, rfl, rfl, rfl, trivial⟩ (Mem.pick [1] (by decide) rfl)
  · have e : l.take i = l := List.take_of_length_le (by omega)
    rw [e]
    have hm := mapAll_length l
    (refine c_sq fun k24 h24 => c_rg <| r_ltF rfl rfl rfl (by omega) <| r_nx h24 <| c_sq fun k26 h26 => c_cF rfl <| c_ex <| WE.then_x <| WE.then_x <| WE.blk_x <| WE.then_n h14 <| c_sq fun k28 h28 => c_rg <| r_mv rfl rfl ?_; rotate_left)
    refine WX.call (m1 := []) (m2 := [OwnR p (mapAll l)]) rfl rfl rfl (compose_spec p.1 p.2 (mapAll l) (by omega) _ _ (Rd.own 0 rfl)) rfl rfl (fun q _ => ?_)
    (refine r_as rfl rfl <| r_as rfl rfl <| r_nx h28 <| c_rt ?_; rotate_left)
    exact WE.ret2 q rfl rfl rfl rfl rfl trivial (Mem.pick [0] (by decide) rfl)

set_option maxRecDepth 100000 in
theorem fold_no (A : Option Addr) (c : Nat) (l : List Int) (hn : l.length ≤ 1000000000) (hl : R32 l) (hok : okAll l = false) (w0 : World) (m0 : List Res) (hA : Rd w0 m0 A (runes l)) :
    Ct (α := Nat) Tryz.prog 34 [.slice A l.length c] w0 [] m0 (fun _ => True) (fun b => .tuple #[.slice none 0 0, ecv [(b, sFold)] 2]) (fun b => ecm [(b, sFold)] 2) := by
  refine Ct.of Tryz.func34 rfl (by kernel_rfl) rfl ?_
  (refine c_sq fun k10 h10 => c_rg <| r_as rfl rfl <| r_as rfl rfl <| r_nx h10 <| c_sq fun k12 h12 => c_rg <| r_as rfl rfl <| r_nx h12 <| c_sq fun k14 h14 => c_sq fun k16 h16 => c_rg <| r_mv rfl rfl <| r_ls Tryz.underlying47 rfl rfl <| r_mv rfl rfl <| r_nx h16 <| c_bl ?_; rotate_left)
  refine WC.loop (α := Nat × (Option Addr × Nat)) (fun x => [(9, .slice A l.length c), (10, .int .i64 l.length), (11, .int .i64 x.1), (4, SlR x.2 (mapAll (l.take x.1)))])
    (fun x => [OwnR x.2 (mapAll (l.take x.1))]) (fun x => x.1 ≤ l.length ∧ okAll (l.take x.1) = true) (fun x => l.length - x.1) (0, (none, 0)) ⟨by simp, rfl⟩ ⟨rfl, rfl, rfl, rfl, trivial⟩ (Mem.nilOwn _ _) ?_
  rintro ⟨i, p⟩ ⟨hi, ho⟩
  dsimp only at hi ho ⊢
  by_cases hlt : i < l.length
  · have hc := mapAll_length (l.take i)
    have hc' : (l.take i).length ≤ i := List.length_take_le _ _
    have hs := mapP_short (l.getD i 0)
    have hb := hl i hlt
    (refine c_sq fun k27 h27 => c_rg <| r_ltT rfl rfl rfl (by omega) <| r_nx h27 <| c_sq fun k29 h29 => c_cT rfl <| c_sk <| WE.then_n h29 <| c_sq fun k31 h31 => c_bl <| c_sq fun k33 h33 => c_rg <| r_im (hA.app _) Tryz.underlying47 (by kernel_rfl) rfl rfl rfl rfl (by omega) (by omega) <| r_li (i) (hA.app _) Tryz.underlying21 rfl rfl rfl (by omega) <| r_as rfl rfl <| r_nx h33 <| c_sq fun k35 h35 => c_rg <| r_mv rfl rfl ?_; rotate_left)
    refine WX.call (m1 := []) (m2 := [OwnR p (mapAll (l.take i))]) rfl rfl rfl (map_spec (l.getD i 0) hb.1 hb.2 _ _) rfl rfl (fun q _ => ?_)
    rcases Bool.eq_false_or_eq_true (mapP (l.getD i 0)).2 with ht | ht
    · rw [ht]
      (refine r_mv rfl rfl <| r_ex rfl rfl rfl <| r_ex rfl rfl rfl <| r_as rfl rfl <| r_as rfl rfl <| r_nx h35 <| c_sq fun k40 h40 => c_sq fun k42 h42 => c_rg <| r_mv rfl rfl <| r_no rfl rfl rfl <| r_nx h42 <| c_cF rfl <| c_sk <| WE.then_n h40 <| c_rg <| r_mv rfl rfl <| r_mv rfl rfl ?_; rotate_left)
      refine r_am (ys := (mapP (l.getD i 0)).1) 1 (z := .int .i32 0) (by_ := 4) (f := (.int .i32 ·)) Tryz.underlying47 (by kernel_rfl) rfl rfl rfl rfl (Rd.own 0 rfl) rfl (fun _ => rfl) (by omega) rfl (fun r _ => ?_)
      rw [← mapAll_snoc, ← take_next hlt]
      (refine r_as rfl rfl <| r_nl <| WE.blk_n <| WE.then_n h31 <| c_rg <| r_ad rfl rfl rfl (wadd64 (by omega)) <| r_mv rfl rfl <| r_nl ?_; rotate_left)
      exact WE.back (i + 1, r) ⟨by dsimp only; omega, by dsimp only; rw [take_next hlt, okAll_snoc, ho, ht]; rfl⟩ (by dsimp only; omega) ⟨rfl, rfl, rfl, rfl, trivial⟩ (Mem.pick [1] (by decide) rfl)
    · rw [ht]
      (refine r_mv rfl rfl <| r_ex rfl rfl rfl <| r_ex rfl rfl rfl <| r_as rfl rfl <| r_as rfl rfl <| r_nx h35 <| c_sq fun k40 h40 => c_sq fun k42 h42 => c_rg <| r_mv rfl rfl <| r_no rfl rfl rfl <| r_nx h42 <| c_cT rfl <| c_sq fun k44 h44 => c_rg <| r_mi rfl (fun _ => by kernel_rfl) rfl ?_; rotate_left)
      refine WX.call (m1 := []) (m2 := _) rfl rfl rfl (wrap_spec sFold [] 2 _ _) rfl rfl (fun b _ => ?_)
      (refine r_as rfl rfl <| r_as rfl rfl <| r_nx h44 <| c_rt <| WE.then_r <| WE.blk_r <| WE.then_r <| WE.then_r <| WE.blk_r <| WE.then_r ?_; rotate_left)
      exact WE.ret2 b rfl rfl rfl rfl rfl trivial (Mem.pick [0] (by decide) rfl)
  · have e : l.take i = l := List.take_of_length_le (by omega)
    rw [e, hok] at ho
    cases ho
end Go.Proofs.YtkggplnigjlegaaGreatDoor

/- What fold.Map and the document's Map answer is the same: the plain law. -/
namespace Go.Proofs.YtkggplnigjlegaaGreatDoor
open Go.RowKit Go.Gp

theorem do_all (c : Int) : (∃ i, i < 28 ∧ inSp (sp i) c = true ∧ doOf c = (sp i).2.2) ∨ ((∀ j, j < 28 → inSp (sp j) c = false) ∧ doOf c = 0) := by
  by_cases h : ∀ j, j < 28 → inSp (sp j) c = false
  · exact .inr ⟨h, doOf_no h⟩
  · rcases doOf_cases c with h1 | h1
    · exact .inl h1
    · refine .inr ⟨fun j hj => ?_, h1⟩
      cases hb : inSp (sp j) c with
      | false => rfl
      | true =>
        exfalso
        have : ∀ i, i < 28 → inSp (sp i) c = true → ∃ k, k < 28 ∧ inSp (sp k) c = true ∧ ∀ j, j < k → inSp (sp j) c = false := by
          intro i
          induction i using Nat.strongRecOn with
          | _ i ih =>
            intro hi h
            by_cases hj : ∃ j, j < i ∧ inSp (sp j) c = true
            · obtain ⟨j, hj, hj'⟩ := hj
              exact ih j hj (by omega) hj'
            · exact ⟨i, hi, h, fun j hj1 => by
                cases hb : inSp (sp j) c with
                | false => rfl
                | true => exact absurd ⟨j, hj1, hb⟩ hj⟩
        obtain ⟨k, k1, k2, k3⟩ := this j hj hb
        have e := doOf_at k1 k3 k2
        rw [h1] at e
        have h' : k = 0 ∨ k = 1 ∨ k = 2 ∨ k = 3 ∨ k = 4 ∨ k = 5 ∨ k = 6 ∨ k = 7 ∨ k = 8 ∨ k = 9 ∨ k = 10 ∨ k = 11 ∨ k = 12 ∨ k = 13 ∨ k = 14 ∨ k = 15 ∨ k = 16 ∨ k = 17 ∨ k = 18 ∨ k = 19 ∨ k = 20 ∨ k = 21 ∨ k = 22 ∨ k = 23 ∨ k = 24 ∨ k = 25 ∨ k = 26 ∨ k = 27 := by omega
        rcases h' with rfl | rfl | rfl | rfl | rfl | rfl | rfl | rfl | rfl | rfl | rfl | rfl | rfl | rfl | rfl | rfl | rfl | rfl | rfl | rfl | rfl | rfl | rfl | rfl | rfl | rfl | rfl | rfl
        all_goals exact absurd e (by decide)

theorem rb_bar {c : Int} (h : Bar1 c ∨ Bar2 c) : refMap c = ([], false) := by simp [refMap, barR_t h]
theorem rb_drop {c : Int} (h : ¬ (Bar1 c ∨ Bar2 c)) (h2 : c = 173 ∨ c = 8203 ∨ c = 8288 ∨ c = 65279) : refMap c = ([], true) := by
  rw [refMap, barR_f h, if_neg (by decide), if_pos h2]
theorem rb_dot {c : Int} (h : ¬ (Bar1 c ∨ Bar2 c)) (h2 : ¬ (c = 173 ∨ c = 8203 ∨ c = 8288 ∨ c = 65279)) (h3 : c = 12290 ∨ c = 65377) : refMap c = ([46], true) := by
  rw [refMap, barR_f h, if_neg (by decide), if_neg h2, if_pos h3]
theorem rb_wide {c : Int} (h : ¬ (Bar1 c ∨ Bar2 c)) (h2 : ¬ (c = 173 ∨ c = 8203 ∨ c = 8288 ∨ c = 65279)) (h3 : ¬ (c = 12290 ∨ c = 65377)) (h4 : 65281 ≤ c ∧ c ≤ 65374) : refMap c = (refMap1 (c - 65248), true) := by
  rw [refMap, barR_f h, if_neg (by decide), if_neg h2, if_neg h3, if_pos h4]
theorem rb_plain {c : Int} (h : ¬ (Bar1 c ∨ Bar2 c)) (h2 : ¬ (c = 173 ∨ c = 8203 ∨ c = 8288 ∨ c = 65279)) (h3 : ¬ (c = 12290 ∨ c = 65377)) (h4 : ¬ (65281 ≤ c ∧ c ≤ 65374)) : refMap c = (refMap1 c, true) := by
  rw [refMap, barR_f h, if_neg (by decide), if_neg h2, if_neg h3, if_neg h4]
theorem r1_up {c : Int} (h : (65 ≤ c ∧ c ≤ 90) ∨ (192 ≤ c ∧ c ≤ 222 ∧ c ≠ 215) ∨ (913 ≤ c ∧ c ≤ 937 ∧ c ≠ 930) ∨ (1040 ≤ c ∧ c ≤ 1071)) : refMap1 c = [c + 32] := by rw [refMap1, if_pos h]
theorem r1_up2 {c : Int} (h : 1024 ≤ c ∧ c ≤ 1039) : refMap1 c = [c + 80] := by rw [refMap1, if_neg (by omega), if_pos h]
theorem r1_no {c : Int} (h : ¬ ((65 ≤ c ∧ c ≤ 90) ∨ (192 ≤ c ∧ c ≤ 222 ∧ c ≠ 215) ∨ (913 ≤ c ∧ c ≤ 937 ∧ c ≠ 930) ∨ (1040 ≤ c ∧ c ≤ 1071))) (h2 : ¬ (1024 ≤ c ∧ c ≤ 1039)) (h3 : c ≠ 7838) : refMap1 c = [c + 0] := by rw [refMap1, if_neg h, if_neg h2, if_neg h3, Int.add_zero]

theorem map1_bar (c : Int) : map1 c (-1) = ([], false) := rfl
theorem map1_drop (c : Int) : map1 c (-2) = ([], true) := rfl
theorem map1_dot (c : Int) : map1 c (-3) = ([46], true) := rfl
theorem mapP_of {c d : Int} (h : doOf c = d) (hd : d ≠ -4) : mapP c = map1 c d := by rw [mapP, h, if_neg hd]

set_option maxHeartbeats 1000000 in
theorem map_law (c : Int) (h1 : -2147483648 ≤ c) (h2 : c ≤ 2147483647) : mapP c = refMap c := by
  rcases do_all c with ⟨k, hk, hi, e⟩ | ⟨hn, e⟩
  · have h' : k = 0 ∨ k = 1 ∨ k = 2 ∨ k = 3 ∨ k = 4 ∨ k = 5 ∨ k = 6 ∨ k = 7 ∨ k = 8 ∨ k = 9 ∨ k = 10 ∨ k = 11 ∨ k = 12 ∨ k = 13 ∨ k = 14 ∨ k = 15 ∨ k = 16 ∨ k = 17 ∨ k = 18 ∨ k = 19 ∨ k = 20 ∨ k = 21 ∨ k = 22 ∨ k = 23 ∨ k = 24 ∨ k = 25 ∨ k = 26 ∨ k = 27 := by omega
    rcases h' with rfl | rfl | rfl | rfl | rfl | rfl | rfl | rfl | rfl | rfl | rfl | rfl | rfl | rfl | rfl | rfl | rfl | rfl | rfl | rfl | rfl | rfl | rfl | rfl | rfl | rfl | rfl | rfl
    all_goals (simp [inSp, sp, spanList] at hi e)
    all_goals
      first
      | (rw [mapP_of e (by decide), rb_bar (by omega)]; rfl)
      | (rw [mapP_of e (by decide), rb_drop (by omega) (by omega)]; rfl)
      | (rw [mapP_of e (by decide), rb_dot (by omega) (by omega) (by omega)]; rfl)
      | (rw [mapP_of e (by decide), rb_plain (by omega) (by omega) (by omega) (by omega), r1_up (by omega)]; rfl)
      | (rw [mapP_of e (by decide), rb_plain (by omega) (by omega) (by omega) (by omega), r1_up2 (by omega)]; rfl)
      | (rw [mapP_of e (by decide), show c = 7838 by omega]; decide +kernel)
      | skip
    · rw [rb_wide (by omega) (by omega) (by omega) (by omega), mapP, e, if_pos rfl, small_do (by omega) (by omega)]
      by_cases hq : c - 65248 ≤ 90 ∧ 65 ≤ c - 65248
      · rw [if_pos hq, r1_up (by omega)]; rfl
      · rw [if_neg hq, r1_no (by omega) (by omega) (by omega)]; rfl
  · have g : ∀ j, j < 28 → ¬ ((sp j).1 ≤ c ∧ c ≤ (sp j).2.1) := fun j hj h => by
      have := hn j hj
      simp [inSp, h.1, h.2] at this
    have g0 := g 0 (by decide)
    have g1 := g 1 (by decide)
    have g2 := g 2 (by decide)
    have g3 := g 3 (by decide)
    have g4 := g 4 (by decide)
    have g5 := g 5 (by decide)
    have g6 := g 6 (by decide)
    have g7 := g 7 (by decide)
    have g8 := g 8 (by decide)
    have g9 := g 9 (by decide)
    have g10 := g 10 (by decide)
    have g11 := g 11 (by decide)
    have g12 := g 12 (by decide)
    have g13 := g 13 (by decide)
    have g14 := g 14 (by decide)
    have g15 := g 15 (by decide)
    have g16 := g 16 (by decide)
    have g17 := g 17 (by decide)
    have g18 := g 18 (by decide)
    have g19 := g 19 (by decide)
    have g20 := g 20 (by decide)
    have g21 := g 21 (by decide)
    have g22 := g 22 (by decide)
    have g23 := g 23 (by decide)
    have g24 := g 24 (by decide)
    have g25 := g 25 (by decide)
    have g26 := g 26 (by decide)
    have g27 := g 27 (by decide)
    simp only [sp, spanList, List.getD_eq_getElem?_getD, List.getElem?_cons_zero, List.getElem?_cons_succ, Option.getD_some] at g0 g1 g2 g3 g4 g5 g6 g7 g8 g9 g10 g11 g12 g13 g14 g15 g16 g17 g18 g19 g20 g21 g22 g23 g24 g25 g26 g27
    clear hn g
    rw [mapP_of e (by decide), rb_plain (by omega) (by omega) (by omega) (by omega), r1_no (by omega) (by omega) (by omega)]
    rfl
end Go.Proofs.YtkggplnigjlegaaGreatDoor

/- Folding: the plain laws: what is folded stays; parts put together. -/
namespace Go.Proofs.YtkggplnigjlegaaGreatDoor
open Go.RowKit Go.Gp

theorem made_props (c : Int) (i : Nat) : (madeL c).getD i 0 = 0 ∨ (224 ≤ (madeL c).getD i 0 ∧ (madeL c).getD i 0 ≤ 255 ∧ (madeL c).getD i 0 ≠ 247 ∧ 97 ≤ c ∧ c ≤ 122) := by
  by_cases h7 : i < 7
  · have h' : i = 0 ∨ i = 1 ∨ i = 2 ∨ i = 3 ∨ i = 4 ∨ i = 5 ∨ i = 6 := by omega
    unfold madeL
    rcases h' with rfl | rfl | rfl | rfl | rfl | rfl | rfl <;> repeat' split
    all_goals first | (left; rfl) | (right; subst_vars; decide)
  · left
    rw [List.getD_eq_getElem?_getD, List.getElem?_eq_none (by rw [madeL_length]; omega)]
    rfl
theorem pair_props (u c : Int) : pairR u c = 0 ∨ (224 ≤ pairR u c ∧ pairR u c ≤ 255 ∧ pairR u c ≠ 247 ∧ 97 ≤ u ∧ u ≤ 122) := by
  unfold pairR
  split
  · exact .inl rfl
  · exact made_props u _
theorem pair_low {u c : Int} (h : c < 768) : pairR u c = 0 := by
  have hb := markAt_bd c
  unfold pairR
  rw [if_pos (by omega)]

theorem addR_nil (c : Int) : addR [] c = [c] := rfl
theorem addR_end (t : List Int) (u c : Int) : addR (t ++ [u]) c = if pairR u c ≠ 0 then t ++ [pairR u c] else t ++ [u] ++ [c] := by
  have e : (t ++ [u]).getD ((t ++ [u]).length - 1) 0 = u := by simp
  unfold addR
  rw [e]
  by_cases h : pairR u c ≠ 0
  · rw [if_pos ⟨by simp, h⟩, if_pos h]
    simp
  · rw [if_neg (fun x => h x.2), if_neg h]
theorem addR_low (s : List Int) {c : Int} (h : c < 768) : addR s c = s ++ [c] := by
  rcases List.eq_nil_or_concat s with rfl | ⟨t, u, rfl⟩
  · rfl
  · rw [List.concat_eq_append, addR_end, if_neg (by rw [pair_low h]; exact fun x => x rfl)]

/-- Letters and marks put together once more, behind others: the same. -/
theorem foldl_comp (l : List Int) : ∀ s : List Int, (compR l).foldl addR s = l.foldl addR s := by
  have key : ∀ n (l : List Int), l.length = n → ∀ s : List Int, (compR l).foldl addR s = l.foldl addR s := by
    intro n
    induction n with
    | zero => intro l hl s; cases l with | nil => rfl | cons a b => simp at hl
    | succ n ih =>
      intro l hl s
      rcases List.eq_nil_or_concat l with rfl | ⟨k, c, rfl⟩
      · rfl
      · rw [List.concat_eq_append] at hl ⊢
        have hk := ih k (by simpa using hl) s
        rw [compR_snoc, List.foldl_append, List.foldl_cons, List.foldl_nil, ← hk]
        rcases List.eq_nil_or_concat (compR k) with e | ⟨t, u, e⟩
        · rw [e]; rfl
        · rw [e, List.concat_eq_append, addR_end]
          by_cases h : pairR u c ≠ 0
          · have hp := pair_props u c
            rw [if_pos h, List.foldl_append, List.foldl_append, List.foldl_cons, List.foldl_nil, List.foldl_cons, List.foldl_nil, addR_low (c := pairR u c) _ (by omega), addR_low (c := u) _ (by omega), addR_end, if_pos h]
          · rw [if_neg h, List.foldl_append, List.foldl_cons, List.foldl_nil]
  exact key l.length l rfl
theorem comp_comp (l : List Int) : compR (compR l) = compR l := foldl_comp l []
theorem comp_join (x y : List Int) : compR (compR x ++ compR y) = compR (x ++ y) := by
  show (compR x ++ compR y).foldl addR [] = (x ++ y).foldl addR []
  rw [List.foldl_append, List.foldl_append, foldl_comp y]
  congr 1
  exact foldl_comp x []

/-- What every mapping leaves alone. -/
abbrev Fx (c : Int) : Prop := ¬ (Bar1 c ∨ Bar2 c) ∧ ¬ (c = 173 ∨ c = 8203 ∨ c = 8288 ∨ c = 65279) ∧ ¬ (c = 12290 ∨ c = 65377) ∧ ¬ (65281 ≤ c ∧ c ≤ 65374) ∧
  ¬ ((65 ≤ c ∧ c ≤ 90) ∨ (192 ≤ c ∧ c ≤ 222 ∧ c ≠ 215) ∨ (913 ≤ c ∧ c ≤ 937 ∧ c ≠ 930) ∨ (1040 ≤ c ∧ c ≤ 1071)) ∧ ¬ (1024 ≤ c ∧ c ≤ 1039) ∧ c ≠ 7838
theorem Fx.map {c : Int} (h : Fx c) : mapP c = ([c], true) := by
  obtain ⟨h1, h2, h3, h4, h5, h6, h7⟩ := h
  rw [map_law c (by omega) (by omega), rb_plain h1 h2 h3 h4, r1_no h5 h6 h7, Int.add_zero]
theorem refMap1_fx {c : Int} (h : Fx c ∨ (¬ (Bar1 c ∨ Bar2 c) ∧ ¬ (c = 173 ∨ c = 8203 ∨ c = 8288 ∨ c = 65279) ∧ ¬ (c = 12290 ∨ c = 65377) ∧ ¬ (65281 ≤ c ∧ c ≤ 65374))) : ∀ x ∈ refMap1 c, Fx x := by
  intro x hx
  unfold refMap1 at hx
  split at hx
  · simp only [List.mem_singleton] at hx
    subst hx
    refine ⟨?_, ?_, ?_, ?_, ?_, ?_, ?_⟩ <;> omega
  · split at hx
    · simp only [List.mem_singleton] at hx
      subst hx
      refine ⟨?_, ?_, ?_, ?_, ?_, ?_, ?_⟩ <;> omega
    · split at hx
      · simp only [List.mem_cons, List.not_mem_nil, or_false] at hx
        have : x = 115 := by omega
        subst this
        decide
      · simp only [List.mem_singleton] at hx
        subst hx
        refine ⟨?_, ?_, ?_, ?_, ?_, ?_, ?_⟩ <;> omega
theorem mapP_fx {c : Int} (h1 : -2147483648 ≤ c) (h2 : c ≤ 2147483647) : ∀ x ∈ (mapP c).1, Fx x := by
  intro x hx
  rw [map_law c h1 h2] at hx
  by_cases b : Bar1 c ∨ Bar2 c
  · rw [rb_bar b] at hx
    simp at hx
  · by_cases d : c = 173 ∨ c = 8203 ∨ c = 8288 ∨ c = 65279
    · rw [rb_drop b d] at hx
      simp at hx
    · by_cases o : c = 12290 ∨ c = 65377
      · rw [rb_dot b d o] at hx
        simp only [List.mem_singleton] at hx
        subst hx
        decide
      · by_cases w : 65281 ≤ c ∧ c ≤ 65374
        · rw [rb_wide b d o w] at hx
          exact refMap1_fx (.inr ⟨by omega, by omega, by omega, by omega⟩) x hx
        · rw [rb_plain b d o w] at hx
          exact refMap1_fx (.inr ⟨b, d, o, w⟩) x hx
theorem mapAll_fx {l : List Int} (h : ∀ c ∈ l, -2147483648 ≤ c ∧ c ≤ 2147483647) : ∀ x ∈ mapAll l, Fx x := by
  intro x hx
  obtain ⟨c, hc, hx⟩ := List.mem_flatMap.1 hx
  exact mapP_fx (h c hc).1 (h c hc).2 x hx
theorem addR_fx {s : List Int} {c : Int} (hs : ∀ x ∈ s, Fx x) (hc : Fx c) : ∀ x ∈ addR s c, Fx x := by
  rcases List.eq_nil_or_concat s with rfl | ⟨t, u, rfl⟩
  · intro x hx
    rw [addR_nil, List.mem_singleton] at hx
    subst hx
    exact hc
  · rw [List.concat_eq_append] at hs ⊢
    rw [addR_end]
    split
    · rename_i hne
      intro x hx
      rcases List.mem_append.1 hx with hx | hx
      · exact hs x (by simp [hx])
      · rw [List.mem_singleton] at hx
        have hp := pair_props u c
        subst hx
        refine ⟨?_, ?_, ?_, ?_, ?_, ?_, ?_⟩ <;> omega
    · intro x hx
      rcases List.mem_append.1 hx with hx | hx
      · exact hs x hx
      · rw [List.mem_singleton] at hx
        subst hx
        exact hc
theorem foldl_fx (l : List Int) : ∀ s : List Int, (∀ x ∈ s, Fx x) → (∀ x ∈ l, Fx x) → ∀ x ∈ l.foldl addR s, Fx x := by
  induction l with
  | nil => intro s hs _; exact hs
  | cons c l ih => intro s hs hl; exact ih _ (addR_fx hs (hl c (by simp))) (fun x hx => hl x (by simp [hx]))
theorem compR_fx {l : List Int} (h : ∀ x ∈ l, Fx x) : ∀ x ∈ compR l, Fx x := foldl_fx l [] (by simp) h
theorem fx_okAll {l : List Int} (h : ∀ x ∈ l, Fx x) : okAll l = true := by
  rw [okAll, List.all_eq_true]
  intro x hx
  rw [(h x hx).map]
theorem fx_mapAll {l : List Int} (h : ∀ x ∈ l, Fx x) : mapAll l = l := by
  induction l with
  | nil => rfl
  | cons c l ih =>
    have := ih (fun x hx => h x (by simp [hx]))
    unfold mapAll at this ⊢
    rw [List.flatMap_cons, this, (h c (by simp)).map]
    rfl
theorem mapAll_append (a b : List Int) : mapAll (a ++ b) = mapAll a ++ mapAll b := by simp [mapAll]
theorem okAll_append (a b : List Int) : okAll (a ++ b) = (okAll a && okAll b) := by simp [okAll]

/-- What is folded is folded to itself. -/
theorem fold_once {l : List Int} (h : ∀ c ∈ l, -2147483648 ≤ c ∧ c ≤ 2147483647) : okAll (compR (mapAll l)) = true ∧ compR (mapAll (compR (mapAll l))) = compR (mapAll l) := by
  have hf := compR_fx (mapAll_fx h)
  exact ⟨fx_okAll hf, by rw [fx_mapAll hf, comp_comp]⟩
/-- Parts fold as each for itself, put together. -/
theorem fold_joins (a b : List Int) : compR (compR (mapAll a) ++ compR (mapAll b)) = compR (mapAll (a ++ b)) := by rw [mapAll_append, comp_join]
theorem comp_low {l : List Int} (h : ∀ x ∈ l, x < 768) : ∀ s : List Int, l.foldl addR s = s ++ l := by
  induction l with
  | nil => intro s; simp
  | cons c l ih =>
    intro s
    rw [List.foldl_cons, addR_low s (h c (by simp)), ih (fun x hx => h x (by simp [hx]))]
    simp
theorem refMap_short (c : Int) (h1 : -2147483648 ≤ c) (h2 : c ≤ 2147483647) : (refMap c).1.length ≤ 2 := by rw [← map_law c h1 h2]; exact mapP_short c
theorem R32.of_mem {l : List Int} (h : ∀ n ∈ l, -2147483648 ≤ n ∧ n ≤ 2147483647) : R32 l := fun i hi => h _ (by simp [hi])
theorem Fx.r32 {l : List Int} (h : ∀ n ∈ l, Fx n) : R32 l := R32.of_mem fun n hn => by
  have := h n hn
  obtain ⟨h1, _⟩ := this
  omega
end Go.Proofs.YtkggplnigjlegaaGreatDoor

/- slices.Equal and label.may: the walks. -/
namespace Go.Proofs.YtkggplnigjlegaaGreatDoor
open Go.RowKit Go.Gp

set_option maxRecDepth 100000 in
theorem equal_spec (A B : Option Addr) (c d : Nat) (l k : List Int) (w0 : World) (m0 : List Res) (hA : Rd w0 m0 A (runes l)) (hB : Rd w0 m0 B (runes k)) (hn : l.length ≤ 140737488355328) :
    PureC Tryz.prog 93 [.slice A l.length c, .slice B k.length d] w0 m0 (.bool (decide (l = k))) := by
  refine Ct.of Tryz.func93 rfl (by kernel_rfl) rfl ?_
  by_cases hl : l.length = k.length
  · (refine c_sq fun k13 h13 => c_rg <| r_as rfl rfl <| r_nx h13 <| c_sq fun k15 h15 => c_sq fun k17 h17 => c_rg <| r_mv rfl rfl <| r_ls Tryz.underlying47 rfl rfl <| r_mv rfl rfl <| r_ls Tryz.underlying47 rfl rfl <| r_neF rfl rfl rfl (by omega) <| r_nx h17 <| c_cF rfl <| c_sk <| WE.then_n h15 <| c_sq fun k19 h19 => c_sq fun k21 h21 => c_rg <| r_mv rfl rfl <| r_ls Tryz.underlying47 rfl rfl <| r_mv rfl rfl <| r_nx h21 <| c_bl ?_; rotate_left)
    refine WC.loop (α := Nat) (fun i => [(0, .slice A l.length c), (1, .slice B k.length d), (12, .int .i64 l.length), (13, .int .i64 i)]) (fun _ => []) (fun i => i ≤ l.length ∧ l.take i = k.take i) (fun i => l.length - i) 0 ⟨by omega, rfl⟩ ⟨rfl, rfl, rfl, rfl, trivial⟩ Mem.keep ?_
    rintro i ⟨hi, ht⟩
    by_cases hlt : i < l.length
    · by_cases hc : l.getD i 0 = k.getD i 0
      · (refine c_sq fun k28 h28 => c_rg <| r_ltT rfl rfl rfl (by omega) <| r_nx h28 <| c_sq fun k30 h30 => c_cT rfl <| c_sk <| WE.then_n h30 <| c_sq fun k32 h32 => c_bl <| c_sq fun k34 h34 => c_rg <| r_mv rfl rfl <| r_as rfl rfl <| r_nx h34 <| c_sq fun k36 h36 => c_dr rfl (by kernel_rfl) (by kernel_rfl) <| r_mv rfl rfl <| r_mv rfl rfl <| r_im (hA.app _) Tryz.underlying47 (by kernel_rfl) rfl rfl rfl rfl (by omega) (by omega) <| r_li (i) (hA.app _) Tryz.underlying21 rfl rfl rfl (by omega) <| r_mv rfl rfl <| r_mv rfl rfl <| r_im (hB.app _) Tryz.underlying47 (by kernel_rfl) rfl rfl rfl rfl (by omega) (by omega) <| r_li (i) (hB.app _) Tryz.underlying21 rfl rfl rfl (by omega) <| r_neF rfl rfl rfl (by omega) <| r_nx h36 <| c_cF rfl <| c_sk <| WE.blk_n <| WE.then_n h32 <| c_rg <| r_ad rfl rfl rfl (wadd64 (by omega)) <| r_mv rfl rfl <| r_nl ?_; rotate_left)
        exact WE.back (i + 1) ⟨by omega, by rw [take_next hlt, take_next (show i < k.length by omega), ht, hc]⟩ (by omega) ⟨rfl, rfl, rfl, rfl, trivial⟩ Mem.keep
      · (refine c_sq fun k28 h28 => c_rg <| r_ltT rfl rfl rfl (by omega) <| r_nx h28 <| c_sq fun k30 h30 => c_cT rfl <| c_sk <| WE.then_n h30 <| c_sq fun k32 h32 => c_bl <| c_sq fun k34 h34 => c_rg <| r_mv rfl rfl <| r_as rfl rfl <| r_nx h34 <| c_sq fun k36 h36 => c_dr rfl (by kernel_rfl) (by kernel_rfl) <| r_mv rfl rfl <| r_mv rfl rfl <| r_im (hA.app _) Tryz.underlying47 (by kernel_rfl) rfl rfl rfl rfl (by omega) (by omega) <| r_li (i) (hA.app _) Tryz.underlying21 rfl rfl rfl (by omega) <| r_mv rfl rfl <| r_mv rfl rfl <| r_im (hB.app _) Tryz.underlying47 (by kernel_rfl) rfl rfl rfl rfl (by omega) (by omega) <| r_li (i) (hB.app _) Tryz.underlying21 rfl rfl rfl (by omega) <| r_neT rfl rfl rfl (by omega) <| r_nx h36 <| c_cT rfl <| c_sq fun k38 h38 => c_rg <| r_as rfl rfl <| r_nx h38 <| c_rt <| WE.blk_r <| WE.then_r <| WE.then_r <| WE.blk_r <| WE.then_r ?_; rotate_left)
        exact WE.ret1 () rfl rfl (by rw [decide_eq_false (fun e => hc (by rw [e]))]; rfl) trivial Mem.drop
    · have e : l = k := by
        rw [List.take_of_length_le (by omega), List.take_of_length_le (by omega)] at ht
        exact ht
      (refine c_sq fun k28 h28 => c_rg <| r_ltF rfl rfl rfl (by omega) <| r_nx h28 <| c_sq fun k30 h30 => c_cF rfl <| c_ex <| WE.then_x <| WE.then_x <| WE.blk_x <| WE.then_n h19 <| c_sq fun k32 h32 => c_rg <| r_as rfl rfl <| r_nx h32 <| c_rt ?_; rotate_left)
      exact WE.ret1 () rfl rfl (by rw [decide_eq_true e]; rfl) trivial Mem.drop
  · (refine c_sq fun k13 h13 => c_rg <| r_as rfl rfl <| r_nx h13 <| c_sq fun k15 h15 => c_sq fun k17 h17 => c_rg <| r_mv rfl rfl <| r_ls Tryz.underlying47 rfl rfl <| r_mv rfl rfl <| r_ls Tryz.underlying47 rfl rfl <| r_neT rfl rfl rfl (by omega) <| r_nx h17 <| c_cT rfl <| c_sq fun k19 h19 => c_rg <| r_as rfl rfl <| r_nx h19 <| c_rt <| WE.then_r ?_; rotate_left)
    exact WE.ret1 () rfl rfl (by rw [decide_eq_false (fun e => hl (by rw [e]))]; rfl) trivial Mem.drop
def mayP (l : List Int) : Bool := l.any (fun c => decide (128 ≤ c)) && !decide (MarkP l) && okAll l && decide (compR (mapAll l) = l)
set_option maxRecDepth 100000 in
theorem may_spec (A : Option Addr) (c : Nat) (l : List Int) (hn : l.length ≤ 1000000) (hl : ∀ n ∈ l, -2147483648 ≤ n ∧ n ≤ 2147483647) (w0 : World) (m0 : List Res) (hA : Rd w0 m0 A (runes l)) :
    PureC Tryz.prog 62 [.slice A l.length c] w0 m0 (.bool (mayP l)) := by
  have h1 := mapAll_length l
  have h2 := compR_length (mapAll l)
  have hany : ∀ mm, Rd w0 mm A (runes l) → PureC Tryz.prog 57 [.slice A l.length c, .func (.func 60) #[] #[]] w0 mm (.bool (l.any (fun c => decide (128 ≤ c)))) := fun mm h => containsFunc_spec A c l 60 [] (fun c => decide (128 ≤ c)) (by omega) w0 mm h (fun c m => above_spec c w0 (m ++ mm))
  have hmk : ∀ mm, Rd w0 mm A (runes l) → PureC Tryz.prog 63 [.slice A l.length c] w0 mm (.bool (decide (MarkP l))) := fun mm h => marked_spec A c l w0 mm h
  have hv : mayP l = (l.any (fun c => decide (128 ≤ c)) && !decide (MarkP l) && okAll l && decide (compR (mapAll l) = l)) := rfl
  generalize l.any (fun c => decide (128 ≤ c)) = b1 at hany hv
  generalize decide (MarkP l) = b2 at hmk hv
  refine Ct.of Tryz.func62 rfl (by kernel_rfl) rfl ?_
  rcases Bool.eq_false_or_eq_true (okAll l) with hok | hok
  · rw [hok] at hv
    (refine c_sq fun k20 h20 => c_rg <| r_as rfl rfl <| r_nx h20 <| c_sq fun k22 h22 => c_rg <| r_mv rfl rfl ?_; rotate_left)
    refine WX.call (m1 := []) (m2 := _) rfl rfl rfl (fold_ok A c l (by omega) (R32.of_mem hl) hok _ _ (hA.app _)) rfl rfl (fun p _ => ?_)
    have heq : ∀ mm, Rd w0 mm p.1 (runes (compR (mapAll l))) → Rd w0 mm A (runes l) → PureC Tryz.prog 93 [SlR p (compR (mapAll l)), .slice A l.length c] w0 mm (.bool (decide (compR (mapAll l) = l))) := fun mm g1 g2 => equal_spec _ _ _ _ _ _ w0 mm g1 g2 (by omega)
    generalize decide (compR (mapAll l) = l) = b3 at heq hv
    (refine r_mv rfl rfl <| r_ex rfl rfl rfl <| r_ex rfl rfl rfl <| r_as rfl rfl <| r_as rfl rfl <| r_nx h22 <| c_sq fun k29 h29 => c_rg <| r_mv rfl rfl ?_; rotate_left)
    refine WX.pure rfl rfl (hany _ (hA.app _)) rfl rfl ?_
    cases b1
    · (refine r_mv rfl rfl <| r_sk rfl rfl <| r_sk rfl rfl <| r_sk rfl rfl <| r_pF rfl rfl rfl <| r_mv rfl rfl <| r_sk rfl rfl <| r_sk rfl rfl <| r_pF rfl rfl rfl <| r_mv rfl rfl <| r_sk rfl rfl <| r_sk rfl rfl <| r_sk rfl rfl <| r_pF rfl rfl rfl <| r_as rfl rfl <| r_nx h29 <| c_rt ?_; rotate_left)
      exact WE.ret1 () rfl rfl (by rw [hv]; rfl) trivial Mem.drop
    · (refine r_mv rfl rfl <| r_mv rfl rfl ?_; rotate_left)
      refine WX.pure rfl rfl (hmk _ (hA.app _)) rfl rfl ?_
      cases b2
      · (refine r_no rfl rfl rfl <| r_pT rfl rfl rfl <| r_mv rfl rfl <| r_mv rfl rfl <| r_bk (.bool true) rfl rfl (fun _ => by kernel_rfl) rfl <| r_pT rfl rfl rfl <| r_mv rfl rfl <| r_mv rfl rfl <| r_mv rfl rfl ?_; rotate_left)
        refine WX.pure rfl rfl (heq _ (Rd.own 0 rfl) (hA.app _)) rfl rfl ?_
        cases b3
        · (refine r_pT rfl rfl rfl <| r_as rfl rfl <| r_nx h29 <| c_rt ?_; rotate_left)
          exact WE.ret1 () rfl rfl (by rw [hv]; rfl) trivial Mem.drop
        · (refine r_pT rfl rfl rfl <| r_as rfl rfl <| r_nx h29 <| c_rt ?_; rotate_left)
          exact WE.ret1 () rfl rfl (by rw [hv]; rfl) trivial Mem.drop
      · (refine r_no rfl rfl rfl <| r_pT rfl rfl rfl <| r_mv rfl rfl <| r_sk rfl rfl <| r_sk rfl rfl <| r_pF rfl rfl rfl <| r_mv rfl rfl <| r_sk rfl rfl <| r_sk rfl rfl <| r_sk rfl rfl <| r_pF rfl rfl rfl <| r_as rfl rfl <| r_nx h29 <| c_rt ?_; rotate_left)
        exact WE.ret1 () rfl rfl (by rw [hv]; rfl) trivial Mem.drop
  · rw [hok] at hv
    have hf : mayP l = false := by rw [hv]; cases b1 <;> cases b2 <;> rfl
    (refine c_sq fun k21 h21 => c_rg <| r_as rfl rfl <| r_nx h21 <| c_sq fun k23 h23 => c_rg <| r_mv rfl rfl ?_; rotate_left)
    refine WX.call (m1 := []) (m2 := _) rfl rfl rfl (fold_no A c l (by omega) (R32.of_mem hl) hok _ _ (hA.app _)) rfl rfl (fun b _ => ?_)
    simp only [ecv]
    (refine r_mv rfl rfl <| r_ex rfl rfl rfl <| r_ex rfl rfl rfl <| r_as rfl rfl <| r_as rfl rfl <| r_nx h23 <| c_sq fun k27 h27 => c_rg <| r_mv rfl rfl ?_; rotate_left)
    refine WX.pure rfl rfl (hany _ (hA.app _)) rfl rfl ?_
    cases b1
    · (refine r_mv rfl rfl <| r_sk rfl rfl <| r_sk rfl rfl <| r_sk rfl rfl <| r_pF rfl rfl rfl <| r_mv rfl rfl <| r_sk rfl rfl <| r_sk rfl rfl <| r_pF rfl rfl rfl <| r_mv rfl rfl <| r_sk rfl rfl <| r_sk rfl rfl <| r_sk rfl rfl <| r_pF rfl rfl rfl <| r_as rfl rfl <| r_nx h27 <| c_rt ?_; rotate_left)
      exact WE.ret1 () rfl rfl (by rw [hf]; rfl) trivial Mem.drop
    · (refine r_mv rfl rfl <| r_mv rfl rfl ?_; rotate_left)
      refine WX.pure rfl rfl (hmk _ (hA.app _)) rfl rfl ?_
      cases b2
      · (refine r_no rfl rfl rfl <| r_pT rfl rfl rfl <| r_mv rfl rfl <| r_mv rfl rfl <| r_bk (.bool false) rfl rfl (fun _ => by kernel_rfl) rfl <| r_pT rfl rfl rfl <| r_mv rfl rfl <| r_sk rfl rfl <| r_sk rfl rfl <| r_sk rfl rfl <| r_pF rfl rfl rfl <| r_as rfl rfl <| r_nx h27 <| c_rt ?_; rotate_left)
        exact WE.ret1 () rfl rfl (by rw [hf]; rfl) trivial Mem.drop
      · (refine r_no rfl rfl rfl <| r_pT rfl rfl rfl <| r_mv rfl rfl <| r_sk rfl rfl <| r_sk rfl rfl <| r_pF rfl rfl rfl <| r_mv rfl rfl <| r_sk rfl rfl <| r_sk rfl rfl <| r_sk rfl rfl <| r_pF rfl rfl rfl <| r_as rfl rfl <| r_nx h27 <| c_rt ?_; rotate_left)
        exact WE.ret1 () rfl rfl (by rw [hf]; rfl) trivial Mem.drop
end Go.Proofs.YtkggplnigjlegaaGreatDoor

/- puny.Decode: the walk. -/
namespace Go.Proofs.YtkggplnigjlegaaGreatDoor
open Go.RowKit Go.Gp

/-- Plain bytes as code points. -/
def asc (s : ByteArray) : List Int := s.data.toList.map fun b => (b.toNat : Int)
theorem asc_length (s : ByteArray) : (asc s).length = s.size := by simp [asc]
theorem runesFrom_asc (s : ByteArray) (h : ∀ b ∈ s.data.toList, b.toNat < 128) : ∀ (k i : Nat) (acc : Array Value), i + k = s.size → Conv.runesFrom s k i acc = acc ++ (runes ((asc s).drop i)).toArray
  | 0, i, acc, hk => by
    have : (asc s).drop i = [] := List.drop_eq_nil_of_le (by rw [asc_length]; omega)
    rw [this]
    simp [Conv.runesFrom]
  | k + 1, i, acc, hk => by
    have hlt : i < s.size := by omega
    have hb : (s[i]'hlt).toNat < 128 := h _ (by
      have : s[i]'hlt = s.data.toList[i]'(by simpa using hlt) := by simp; rfl
      rw [this]
      exact List.getElem_mem _)
    have hla : i < (asc s).length := by rw [asc_length]; exact hlt
    rw [Conv.runesFrom, if_pos hlt, decode_ascii s i hlt hb]
    dsimp only
    rw [runesFrom_asc s h k (i + 1) _ (by omega), List.drop_eq_getElem_cons hla]
    have e : (asc s)[i] = ((s[i]'hlt).toNat : Int) := by
      simp [asc]
      rfl
    rw [e]
    apply Array.ext'
    simp
section
variable {C : Cx} {Q : Po} {l : List (Nat × Value)} {m : List Res} {ops : Array Oper} {rest : List Oper} {ty : TypeId} {pos : String} {af : Array Edge} {g : Option (Nat × Bool)} {d : Nat} {x : Operand} {t t2 e : TypeId}
theorem grown_da (w : World) (o : Obj) : w.grownBy (w.drew.alloc o) none :=
  let q := World.grownBy_alloc w.drew o none
  ⟨q.os, q.tape, q.output, q.size, q.block⟩
/-- []rune(s) of plain bytes. -/
theorem r_ru {s : ByteArray} (hs : C.P.underlying t = some .string) (hd : C.P.underlying t2 = some (.slice e)) (he : C.P.underlying e = some (.int .i32)) (hx : opv l x = some (.string s)) (ha : ∀ b ∈ s.data.toList, b.toNat < 128) (hn : s.size ≤ 1000000) (h : okk ops l g d C.n = true)
    (cc : ∀ p : Option Addr × Nat, WX false C Q ops rest ((d, SlR p (asc s)) :: l) (.own p.1 p.2 (asc s).length (runes (asc s)) e 1 :: m)) :
    WX false C Q ops (⟨some d, .convert t t2 x, ty, pos, af, g⟩ :: rest) l m :=
  WX.ev (α := Option Addr × Nat) (φ := fun _ => True) (v := fun p => SlR p (asc s)) (m' := fun p => .own p.1 p.2 (asc s).length (runes (asc s)) e 1 :: m) (fun ev hev w hw => by
    have h1 : Conv.runesFrom s s.size 0 #[] = (runes (asc s)).toArray := by rw [runesFrom_asc s ha s.size 0 #[] (by omega)]; simp
    have hsz : (runes (asc s)).toArray.size = (asc s).length := by simp
    have hrun := run_runes_of_string (P := C.P) w t t2 e s hs hd he (by rw [h1, hsz, asc_length]; omega)
    rw [h1, hsz] at hrun
    have hge := grownCap_ge w (asc s).length 0 e
    have hle := grownCap_le_maxLen w (asc s).length 0 e (by rw [asc_length]; unfold maxLen; omega)
    refine ⟨(some ⟨w.heap.size, 0, none⟩, grownCap w (asc s).length 0 e), w.drew.alloc (.cells ((runes (asc s)).toArray ++ Array.replicate (grownCap w (asc s).length 0 e - (asc s).length) (.int .i32 0)) e), trivial, ?_, ?_⟩
    · simp [execOp, hev x _ hx, hrun]
    · have hgb : w.grownBy (w.drew.alloc (.cells ((runes (asc s)).toArray ++ Array.replicate (grownCap w (asc s).length 0 e - (asc s).length) (.int .i32 0)) e)) none :=
        grown_da w _
      refine Mem.add hw hgb (r := .own (some ⟨w.heap.size, 0, none⟩) (grownCap w (asc s).length 0 e) (asc s).length (runes (asc s)) e 1) ?_ (fun k hk => by simp [Res.block] at hk; omega)
      refine ⟨by simp, .inr ⟨w.heap.size, grownCap w (asc s).length 0 e, _, rfl, hw.bnd, heap_alloc_new w.drew _, hge, hle, ?_, ?_⟩⟩
      · simp; omega
      · simp only [Array.toList_append]
        exact List.take_left' (by simp)) rfl (okk_1 h) (okk_2 h) rfl (fun p _ => cc p)
end
def decL : Nat → ByteArray → List Int → Int → Int → Int → Option (List Int)
  | 0, _, _, _, _, _ => none
  | f + 1, s, l, n, i, bias =>
    if s.size = 0 then some l
    else if (readP s bias).2 = 0 ∨ 1099511627776 < i + (readP s bias).1 then none
    else if 1114111 < n + (i + (readP s bias).1) / ((l.length : Int) + 1) ∨ ¬ ScP (n + (i + (readP s bias).1) / ((l.length : Int) + 1)) then none
    else decL f (s.extract (readP s bias).2.toNat s.size) (insL l ((i + (readP s bias).1) % ((l.length : Int) + 1)).toNat (n + (i + (readP s bias).1) / ((l.length : Int) + 1)))
      (n + (i + (readP s bias).1) / ((l.length : Int) + 1)) ((i + (readP s bias).1) % ((l.length : Int) + 1) + 1) (adaptP (readP s bias).1 ((l.length : Int) + 1) (decide (i = 0)))
theorem readL_bd (bias : Int) (hb : 0 ≤ bias ∧ bias ≤ 1000) : ∀ (r : List UInt8) (a : Nat) (i w : Int), (0 ≤ i ∧ i ≤ 1099511627776) → 1 ≤ w → (0 ≤ (readL bias r a i w).1 ∧ (readL bias r a i w).1 ≤ 1099511627776) ∧ ((readL bias r a i w).2 = 0 ∨ (1 ≤ (readL bias r a i w).2 ∧ (readL bias r a i w).2 ≤ a + r.length))
  | [], a, i, w, h1, h2 => by simp [readL]
  | c :: r, a, i, w, h1, h2 => by
    rw [readL]
    split
    · simp
    · rename_i g1
      have m5 : 0 ≤ valD (lowB c) * w := Int.mul_nonneg (by omega) (by omega)
      split
      · simp; omega
      · split
        · simp
        · have ht := thrP_bd (((a : Int) + 1) * 36) bias
          have m4 : w * 10 ≤ w * (36 - thrP (((a : Int) + 1) * 36) bias) := Int.mul_le_mul_of_nonneg_left (by omega) (by omega)
          have := readL_bd bias hb r (a + 1) (i + valD (lowB c) * w) (w * (36 - thrP (((a : Int) + 1) * 36) bias)) (by omega) (by omega)
          simp only [List.length_cons]
          omega
theorem readP_bd (s : ByteArray) (bias : Int) (hb : 0 ≤ bias ∧ bias ≤ 1000) : (0 ≤ (readP s bias).1 ∧ (readP s bias).1 ≤ 1099511627776) ∧ ((readP s bias).2 = 0 ∨ (1 ≤ (readP s bias).2 ∧ (readP s bias).2 ≤ s.size)) := by
  have := readL_bd bias hb s.data.toList 0 0 1 (by omega) (by omega)
  have e : s.data.toList.length = s.size := by simp
  unfold readP
  omega
def sPuny : ByteArray := ⟨#[112, 117, 110, 121]⟩
set_option maxRecDepth 100000 in
theorem wrong_spec (w0 : World) (m0 : List Res) : Ct (α := Nat) Tryz.prog 88 [] w0 [] m0 (fun _ => True) (fun b => ecv [(b, sPuny)] 2) (fun b => ecm [(b, sPuny)] 2) := by
  refine Ct.of Tryz.func88 rfl (by kernel_rfl) rfl ?_
  (refine c_sq fun k3 h3 => c_rg <| r_as rfl rfl <| r_nx h3 <| c_sq fun k5 h5 => c_rg <| r_mi rfl (fun _ => by kernel_rfl) rfl ?_; rotate_left)
  refine WX.call (m1 := []) (m2 := []) rfl rfl rfl (wrap_spec sPuny [] 2 _ _) rfl rfl (fun b _ => ?_)
  (refine r_as rfl rfl <| r_nx h5 <| c_rt ?_; rotate_left)
  exact WE.ret1 b rfl rfl rfl trivial Mem.keep
set_option maxRecDepth 100000 in
theorem noneD_spec (w0 : World) (m0 : List Res) : Ct (α := Nat) Tryz.prog 87 [] w0 [] m0 (fun _ => True) (fun b => .tuple #[.slice none 0 0, ecv [(b, sPuny)] 2]) (fun b => ecm [(b, sPuny)] 2) := by
  refine Ct.of Tryz.func87 rfl (by kernel_rfl) rfl ?_
  (refine c_sq fun k3 h3 => c_rg <| r_as rfl rfl <| r_as rfl rfl <| r_nx h3 <| c_sq fun k5 h5 => c_rg ?_; rotate_left)
  refine WX.call (m1 := []) (m2 := []) rfl rfl rfl (wrong_spec _ _) rfl rfl (fun b _ => ?_)
  (refine r_as rfl rfl <| r_as rfl rfl <| r_nx h5 <| c_rt ?_; rotate_left)
  exact WE.ret2 b rfl rfl rfl rfl rfl trivial Mem.keep

def decP (s : ByteArray) : Option (List Int) :=
  if s.data.toList.any (fun b => decide (128 ≤ b.toNat)) then none
  else if 0 < lastL s.data.toList 45 s.size then decL (s.size + 1) (s.extract (lastL s.data.toList 45 s.size + 1).toNat s.size) (asc (s.extract 0 (lastL s.data.toList 45 s.size).toNat)) 128 0 72
  else decL (s.size + 1) s [] 128 0 72
def decV : Option (List Int) → Nat × (Option Addr × Nat) → Value
  | none, x => .tuple #[.slice none 0 0, ecv [(x.1, sPuny)] 2]
  | some l, x => .tuple #[SlR x.2 l, .nilIface]
def decM : Option (List Int) → Nat × (Option Addr × Nat) → List Res
  | none, x => ecm [(x.1, sPuny)] 2
  | some l, x => [OwnR x.2 l]
set_option maxRecDepth 100000 in
theorem decode_spec (s : ByteArray) (hs : s.size ≤ 65536) (w0 : World) (m0 : List Res) :
    Ct (α := Nat × (Option Addr × Nat)) Tryz.prog 61 [.string s] w0 [] m0 (fun _ => True) (decV (decP s)) (decM (decP s)) := by
  refine Ct.of Tryz.func61 rfl (by kernel_rfl) rfl ?_
  (refine c_sq fun k5 h5 => c_rg <| r_as rfl rfl <| r_as rfl rfl <| r_nx h5 <| c_sq fun k7 h7 => c_rg <| r_as rfl rfl <| r_nx h7 <| c_sq fun k9 h9 => c_sq fun k11 h11 => c_rg <| r_mv rfl rfl <| r_lS Tryz.underlying9 rfl rfl <| r_gtF rfl rfl rfl (by omega) <| r_nx h11 <| c_cF rfl <| c_sk <| WE.then_n h9 <| c_sq fun k13 h13 => c_sq fun k15 h15 => c_rg <| r_mv rfl rfl <| r_lS Tryz.underlying9 rfl rfl <| r_mv rfl rfl <| r_nx h15 <| c_bl ?_; rotate_left)
  refine WC.loop (α := Nat) (fun i => [(0, .string s), (4, .func (.func 87) #[] #[]), (21, .int .i64 s.size), (22, .int .i64 i)]) (fun _ => []) (fun i => i ≤ s.size ∧ ∀ j, j < i → (s.data.toList.getD j 0).toNat < 128) (fun i => s.size - i) 0 ⟨by omega, by omega⟩ ⟨rfl, rfl, rfl, rfl, trivial⟩ Mem.keep ?_
  rintro i ⟨hi, hb⟩
  by_cases hlt : i < s.size
  · have h256 := (s.data.toList.getD i 0).toNat_lt
    (refine c_sq fun k22 h22 => c_rg <| r_ltT rfl rfl rfl (by omega) <| r_nx h22 <| c_sq fun k24 h24 => c_cT rfl <| c_sk <| WE.then_n h24 <| c_sq fun k26 h26 => c_bl <| c_sq fun k28 h28 => c_rg <| r_mv rfl rfl <| r_as rfl rfl <| r_nx h28 <| c_sq fun k30 h30 => c_rg <| r_mv rfl rfl <| r_mv rfl rfl ?_; rotate_left)
    refine r_iS (v := s.data.toList.getD i 0) Tryz.underlying9 rfl rfl rfl (by omega) (byte_at s hlt) ?_
    by_cases hc : (s.data.toList.getD i 0).toNat < 128
    · (refine r_geF rfl rfl rfl (by omega) <| r_nx h30 <| c_cF rfl <| c_sk <| WE.blk_n <| WE.then_n h26 <| c_rg <| r_ad rfl rfl rfl (wadd64 (by omega)) <| r_mv rfl rfl <| r_nl ?_; rotate_left)
      exact WE.back (i + 1) ⟨by omega, fun j hj => by
        rcases Nat.lt_succ_iff_lt_or_eq.1 hj with h | h
        · exact hb j h
        · rw [h]; exact hc⟩ (by omega) ⟨rfl, rfl, rfl, rfl, trivial⟩ Mem.keep
    · have hP : decP s = none := by
        have : s.data.toList.any (fun b => decide (128 ≤ b.toNat)) = true := by
          rw [List.any_eq_true]
          have h2 : i < s.data.toList.length := by simpa using hlt
          refine ⟨s.data.toList.getD i 0, ?_, decide_eq_true (by omega)⟩
          rw [List.getD_eq_getElem?_getD, List.getElem?_eq_getElem h2]
          exact List.getElem_mem _
        rw [decP, if_pos this]
      (refine r_geT rfl rfl rfl (by omega) <| r_nx h30 <| c_cT rfl <| c_sq fun k34 h34 => c_rg <| r_mv rfl rfl ?_; rotate_left)
      refine WX.call (m1 := []) (m2 := []) rfl rfl rfl (noneD_spec _ _) rfl rfl (fun b _ => ?_)
      (refine r_ex rfl rfl rfl <| r_ex rfl rfl rfl <| r_as rfl rfl <| r_as rfl rfl <| r_nx h34 <| c_rt <| WE.blk_r <| WE.then_r <| WE.then_r <| WE.blk_r <| WE.then_r ?_; rotate_left)
      exact WE.ret2 (b, none, 0) rfl rfl rfl rfl (by rw [hP]; rfl) trivial (by rw [hP]; exact Mem.keep)
  · have hall : ∀ b ∈ s.data.toList, b.toNat < 128 := by
      intro b hbm
      obtain ⟨j, hj, rfl⟩ := List.mem_iff_getElem.1 hbm
      have hj' : j < s.size := by have h3 := hj; simp at h3; exact h3
      have := hb j (by omega)
      rw [List.getD_eq_getElem?_getD, List.getElem?_eq_getElem hj] at this
      exact this
    have hany : s.data.toList.any (fun b => decide (128 ≤ b.toNat)) = false := by
      rw [List.any_eq_false]
      intro b hbm
      have := hall b hbm
      simp
      omega
    have hat := lastL_bd s.data.toList 45 s.size
    have hP : decP s = (if 0 < lastL s.data.toList 45 s.size then decL (s.size + 1) (s.extract (lastL s.data.toList 45 s.size + 1).toNat s.size) (asc (s.extract 0 (lastL s.data.toList 45 s.size).toNat)) 128 0 72 else decL (s.size + 1) s [] 128 0 72) := by
      rw [decP, if_neg (by rw [hany]; decide)]
    (refine c_sq fun k25 h25 => c_rg <| r_ltF rfl rfl rfl (by omega) <| r_nx h25 <| c_sq fun k27 h27 => c_cF rfl <| c_ex <| WE.then_x <| WE.then_x <| WE.blk_x <| WE.then_n h13 <| c_sq fun k29 h29 => c_rg <| r_as rfl rfl <| r_nx h29 ?_)
    refine WC.cut (α := ByteArray × List Int × (Option Addr × Nat)) (fun x => [(0, .string x.1), (4, .func (.func 87) #[] #[]), (6, SlR x.2.2 x.2.1)]) (fun x => [OwnR x.2.2 x.2.1]) (fun x => decL (s.size + 1) x.1 x.2.1 128 0 72 = decP s ∧ x.1.size + x.2.1.length ≤ s.size) ?_ ?_
    · (refine c_sq fun k31 h31 => c_rg <| r_mv rfl rfl ?_; rotate_left)
      refine WX.pure rfl rfl (last_spec s 45 (by omega) _ _) rfl rfl ?_
      generalize lastL s.data.toList 45 s.size = la at hat hP
      by_cases h0 : 0 < la
      · rw [if_pos h0] at hP
        (refine r_as rfl rfl <| r_nx h31 <| c_sq fun k38 h38 => c_rg <| r_mv rfl rfl <| r_gtT rfl rfl rfl (by omega) <| r_nx h38 <| c_cT rfl <| c_sq fun k40 h40 => c_rg <| r_mv rfl rfl <| r_mv rfl rfl ?_; rotate_left)
        refine r_sT Tryz.underlying9 rfl rfl (by omega) (by omega) rfl ?_
        have hx0 : (s.extract 0 la.toNat).size = la.toNat := by rw [ByteArray.size_extract]; omega
        have hx1 : (s.extract (la + 1).toNat s.size).size = s.size - (la + 1).toNat := by rw [ByteArray.size_extract]; omega
        refine r_ru Tryz.underlying9 Tryz.underlying47 Tryz.underlying21 rfl (fun b hb => hall b (by
          rw [ByteArray.data_extract] at hb
          simp at hb
          exact List.mem_of_mem_take hb)) (by omega) rfl (fun p => ?_)
        (refine r_as rfl rfl <| r_nx h40 <| c_rg <| r_mv rfl rfl <| r_mv rfl rfl <| r_ad rfl rfl rfl (wadd64 (by omega)) ?_; rotate_left)
        refine r_sF Tryz.underlying9 rfl rfl (by omega) (by omega) rfl ?_
        (refine r_as rfl rfl <| r_nl ?_; rotate_left)
        exact WE.met (s.extract (la + 1).toNat s.size, asc (s.extract 0 la.toNat), p) ⟨hP.symm, by dsimp only; rw [asc_length]; omega⟩ ⟨rfl, rfl, rfl, trivial⟩ Mem.keep
      · rw [if_neg h0] at hP
        (refine r_as rfl rfl <| r_nx h31 <| c_sq fun k38 h38 => c_rg <| r_mv rfl rfl <| r_gtF rfl rfl rfl (by omega) <| r_nx h38 <| c_cF rfl <| c_sk ?_; rotate_left)
        exact WE.met (s, [], (none, 0)) ⟨hP.symm, by simp⟩ ⟨rfl, rfl, rfl, trivial⟩ (Mem.nilOwn _ _)
    · rintro ⟨s1, l0, p⟩ ⟨e, hz⟩
      dsimp only at e hz ⊢
      (refine c_sq fun k36 h36 => c_rg <| r_as rfl rfl <| r_as rfl rfl <| r_as rfl rfl <| r_nx h36 <| c_sq fun k38 h38 => c_bl ?_; rotate_left)
      refine WC.loop (α := Nat × ByteArray × List Int × Int × Int × Int × (Option Addr × Nat)) (fun x => [(0, .string x.2.1), (4, .func (.func 87) #[] #[]), (6, SlR x.2.2.2.2.2.2 x.2.2.1), (8, .int .i64 x.2.2.2.1), (9, .int .i64 x.2.2.2.2.1), (10, .int .i64 x.2.2.2.2.2.1)])
        (fun x => [OwnR x.2.2.2.2.2.2 x.2.2.1]) (fun x => decL x.1 x.2.1 x.2.2.1 x.2.2.2.1 x.2.2.2.2.1 x.2.2.2.2.2.1 = decP s ∧ x.2.1.size < x.1 ∧ x.2.1.size + x.2.2.1.length ≤ s.size ∧ (128 ≤ x.2.2.2.1 ∧ x.2.2.2.1 ≤ 1114111) ∧ (0 ≤ x.2.2.2.2.1 ∧ x.2.2.2.2.1 ≤ x.2.2.1.length) ∧ (0 ≤ x.2.2.2.2.2.1 ∧ x.2.2.2.2.2.1 ≤ 1000))
        (fun x => x.2.1.size) (s.size + 1, s1, l0, 128, 0, 72, p) ⟨e, by dsimp only; omega, hz, by dsimp only; omega, by dsimp only; omega, by dsimp only; omega⟩ ⟨rfl, rfl, rfl, rfl, rfl, rfl, trivial⟩ Mem.keep ?_
      clear e hz s1 l0 p
      rintro ⟨f, s2, l, n, i, bias, p⟩ ⟨e, h1, h2, h3, h4, h5⟩
      dsimp only at e h1 h2 h3 h4 h5 ⊢
      cases f with
      | zero => omega
      | succ f =>
        rw [decL] at e
        by_cases hz : s2.size = 0
        · rw [if_pos hz] at e
          (refine c_sq fun k59 h59 => c_sq fun k61 h61 => c_rg <| r_mv rfl rfl <| r_lS Tryz.underlying9 rfl rfl <| r_gtF rfl rfl rfl (by omega) <| r_nx h61 <| c_cF rfl <| c_ex <| WE.then_x <| WE.then_x <| WE.blk_x <| WE.then_n h38 <| c_sq fun k63 h63 => c_rg <| r_mv rfl rfl <| r_as rfl rfl <| r_as rfl rfl <| r_nx h63 <| c_rt ?_; rotate_left)
          exact WE.ret2 (0, p) rfl rfl rfl rfl (by rw [← e]; rfl) trivial (by rw [← e]; exact Mem.keep)
        · rw [if_neg hz] at e
          obtain ⟨r1, r2⟩ := readP_bd s2 bias h5
          (refine c_sq fun k61 h61 => c_sq fun k63 h63 => c_rg <| r_mv rfl rfl <| r_lS Tryz.underlying9 rfl rfl <| r_gtT rfl rfl rfl (by omega) <| r_nx h63 <| c_cT rfl <| c_sk <| WE.then_n h61 <| c_bl <| c_sq fun k65 h65 => c_rg <| r_mv rfl rfl <| r_mv rfl rfl ?_; rotate_left)
          refine WX.pure rfl rfl (read_spec s2 bias (by omega) h5 _ _) rfl rfl ?_
          generalize (readP s2 bias).1 = q at e r1 ⊢
          generalize (readP s2 bias).2 = mn at e r2 ⊢
          by_cases c1 : mn = 0
          · rw [if_pos (.inl c1)] at e
            (refine r_mv rfl rfl <| r_ex rfl rfl rfl <| r_ex rfl rfl rfl <| r_as rfl rfl <| r_as rfl rfl <| r_nx h65 <| c_sq fun k75 h75 => c_sq fun k77 h77 => c_rg <| r_mv rfl rfl <| r_eqT rfl rfl rfl (by omega) <| r_mv rfl rfl <| r_sk rfl rfl <| r_sk rfl rfl <| r_sk rfl rfl <| r_sk rfl rfl <| r_pT rfl rfl rfl <| r_nx h77 <| c_cT rfl <| c_sq fun k79 h79 => c_rg <| r_mv rfl rfl ?_; rotate_left)
            refine WX.call (m1 := []) (m2 := [OwnR p l]) rfl rfl rfl (noneD_spec _ _) rfl rfl (fun b _ => ?_)
            (refine r_ex rfl rfl rfl <| r_ex rfl rfl rfl <| r_as rfl rfl <| r_as rfl rfl <| r_nx h79 <| c_rt <| WE.then_r <| WE.blk_r <| WE.then_r <| WE.blk_r <| WE.then_r ?_; rotate_left)
            exact WE.ret2 (b, p) rfl rfl rfl rfl (by rw [← e]; rfl) trivial (by rw [← e]; exact Mem.pick [0] (by decide) rfl)
          · by_cases c2 : 1099511627776 < i + q
            · rw [if_pos (.inr c2)] at e
              (refine r_mv rfl rfl <| r_ex rfl rfl rfl <| r_ex rfl rfl rfl <| r_as rfl rfl <| r_as rfl rfl <| r_nx h65 <| c_sq fun k76 h76 => c_sq fun k78 h78 => c_rg <| r_mv rfl rfl <| r_eqF rfl rfl rfl (by omega) <| r_mv rfl rfl <| r_mv rfl rfl <| r_mv rfl rfl <| r_ad rfl rfl rfl (wadd64 (by omega)) <| r_gtT rfl rfl rfl (by omega) <| r_pF rfl rfl rfl <| r_nx h78 <| c_cT rfl <| c_sq fun k80 h80 => c_rg <| r_mv rfl rfl ?_; rotate_left)
              refine WX.call (m1 := []) (m2 := [OwnR p l]) rfl rfl rfl (noneD_spec _ _) rfl rfl (fun b _ => ?_)
              (refine r_ex rfl rfl rfl <| r_ex rfl rfl rfl <| r_as rfl rfl <| r_as rfl rfl <| r_nx h80 <| c_rt <| WE.then_r <| WE.blk_r <| WE.then_r <| WE.blk_r <| WE.then_r ?_; rotate_left)
              exact WE.ret2 (b, p) rfl rfl rfl rfl (by rw [← e]; rfl) trivial (by rw [← e]; exact Mem.pick [0] (by decide) rfl)
            · rw [if_neg (by omega)] at e
              have d0 : 0 ≤ (i + q) / ((l.length : Int) + 1) := Int.ediv_nonneg (by omega) (by omega)
              have d1 : (i + q) / ((l.length : Int) + 1) ≤ i + q := Int.ediv_le_self _ (by omega)
              have d2 : 0 ≤ (i + q) % ((l.length : Int) + 1) := Int.emod_nonneg _ (by omega)
              have d3 : (i + q) % ((l.length : Int) + 1) < (l.length : Int) + 1 := Int.emod_lt_of_pos _ (by omega)
              have hA := adaptP_bd (delta := q) (many := (l.length : Int) + 1) (by omega) (decide (i = 0))
              have hx : (s2.extract mn.toNat s2.size).size = s2.size - mn.toNat := by rw [ByteArray.size_extract]; omega
              (refine r_mv rfl rfl <| r_ex rfl rfl rfl <| r_ex rfl rfl rfl <| r_as rfl rfl <| r_as rfl rfl <| r_nx h65 <| c_sq fun k82 h82 => c_sq fun k84 h84 => c_rg <| r_mv rfl rfl <| r_eqF rfl rfl rfl (by omega) <| r_mv rfl rfl <| r_mv rfl rfl <| r_mv rfl rfl <| r_ad rfl rfl rfl (wadd64 (by omega)) <| r_gtF rfl rfl rfl (by omega) <| r_pF rfl rfl rfl <| r_nx h84 <| c_cF rfl <| c_sk <| WE.then_n h82 <| c_sq fun k86 h86 => c_rg <| r_mv rfl rfl <| r_mv rfl rfl ?_; rotate_left)
              refine r_sF Tryz.underlying9 rfl rfl (by omega) (by omega) rfl ?_
              have ha : ∀ m1, PureC Tryz.prog 91 [.int .i64 q, .int .i64 ((l.length : Int) + 1), .bool (decide (i = 0))] w0 m1 (.int .i64 (adaptP q ((l.length : Int) + 1) (decide (i = 0)))) := fun m1 => adapt_spec q ((l.length : Int) + 1) (decide (i = 0)) (by omega) w0 m1
              generalize adaptP q ((l.length : Int) + 1) (decide (i = 0)) = bias2 at e hA ha
              by_cases i0 : i = 0
              · rw [decide_eq_true i0] at ha
                (refine r_as rfl rfl <| r_nx h86 <| c_sq fun k94 h94 => c_rg <| r_mv rfl rfl <| r_mv rfl rfl <| r_ls Tryz.underlying47 rfl rfl <| r_ad rfl rfl rfl (wadd64 (by omega)) <| r_mv rfl rfl <| r_eqT rfl rfl rfl (by omega) ?_; rotate_left)
                refine WX.pure rfl rfl (ha _) rfl rfl ?_
                (refine r_as rfl rfl <| r_nx h94 <| c_sq fun k96 h96 => c_rg <| r_mv rfl rfl <| r_mv rfl rfl <| r_ad rfl rfl rfl (wadd64 (by omega)) <| r_as rfl rfl <| r_nx h96 <| c_sq fun k98 h98 => c_rg <| r_mv rfl rfl <| r_mv rfl rfl <| r_mv rfl rfl <| r_ls Tryz.underlying47 rfl rfl <| r_ad rfl rfl rfl (wadd64 (by omega)) <| r_qu rfl rfl rfl (by omega) (wquo64 (by omega)) <| r_ad rfl rfl rfl (wadd64 (by omega)) <| r_as rfl rfl <| r_nx h98 <| c_sq fun k100 h100 => c_rg <| r_mv rfl rfl <| r_mv rfl rfl <| r_ls Tryz.underlying47 rfl rfl <| r_ad rfl rfl rfl (wadd64 (by omega)) <| r_re rfl rfl rfl (by omega) (wrem (by omega)) <| r_as rfl rfl <| r_nx h100 <| c_sq fun k102 h102 => c_sq fun k104 h104 => c_rg <| r_mv rfl rfl ?_; rotate_left)
                obtain ⟨k, hk⟩ := Int.eq_ofNat_of_zero_le d2
                rw [hk, Int.toNat_natCast] at e
                rw [hk]
                generalize (i + q) / ((l.length : Int) + 1) = dv at e d0 d1 ⊢
                by_cases v1 : 1114111 < n + dv
                · rw [if_pos (.inl v1)] at e
                  (refine r_gtT rfl rfl rfl (by omega) <| r_mv rfl rfl <| r_sk rfl rfl <| r_sk rfl rfl <| r_sk rfl rfl <| r_sk rfl rfl <| r_pT rfl rfl rfl <| r_nx h104 <| c_cT rfl <| c_sq fun k116 h116 => c_rg <| r_mv rfl rfl ?_; rotate_left)
                  refine WX.call (m1 := []) (m2 := [OwnR p l]) rfl rfl rfl (noneD_spec _ _) rfl rfl (fun b _ => ?_)
                  (refine r_ex rfl rfl rfl <| r_ex rfl rfl rfl <| r_as rfl rfl <| r_as rfl rfl <| r_nx h116 <| c_rt <| WE.then_r <| WE.blk_r <| WE.then_r <| WE.blk_r <| WE.then_r ?_; rotate_left)
                  exact WE.ret2 (b, p) rfl rfl rfl rfl (by rw [← e]; rfl) trivial (by rw [← e]; exact Mem.pick [0] (by decide) rfl)
                · (refine r_gtF rfl rfl rfl (by omega) <| r_mv rfl rfl <| r_mv rfl rfl <| r_cv rfl (cv_int (k' := .i32) rfl Tryz.underlying21 (w32 (by omega))) rfl ?_; rotate_left)
                  by_cases v2 : ScP (n + dv)
                  · rw [if_neg (fun h => h.elim v1 (fun h => h v2))] at e
                    have hv2 : ∀ m1, PureC Tryz.prog 59 [.int .i32 (n + dv)] w0 m1 (.bool true) := fun m1 => by have := validRune_spec (n + dv) w0 m1; rwa [decide_eq_true v2] at this
                    refine WX.pure rfl rfl (hv2 _) rfl rfl ?_
                    (refine r_no rfl rfl rfl <| r_pF rfl rfl rfl <| r_nx h104 <| c_cF rfl <| c_sk <| WE.then_n h102 <| c_sq fun k118 h118 => c_rg <| r_mv rfl rfl <| r_mv rfl rfl <| r_mv rfl rfl <| r_cv rfl (cv_int (k' := .i32) rfl Tryz.underlying21 (w32 (by omega))) rfl <| r_bo Tryz.underlying47 rfl (fun _ => by kernel_rfl) rfl rfl rfl (fun _ => ?_); rotate_left)
                    (rotate_left)
                    rename_i vb
                    refine WX.mem (m' := [OwnR p l, .own (some ⟨vb, 0, none⟩) 1 1 [.int .i32 (n + dv)] 21 1]) (Mem.pick [1, 0] (by decide) rfl) ?_
                    refine WX.call (m1 := [OwnR p l, .own (some ⟨vb, 0, none⟩) 1 1 [.int .i32 (n + dv)] 21 1]) (m2 := []) rfl rfl rfl (insert_spec p l k (n + dv) vb (by omega) (by omega) _ _) rfl rfl (fun p2 _ => ?_)
                    have hl2 := insL_length l k (n + dv) (by omega)
                    (refine r_as rfl rfl <| r_nx h118 <| c_rg <| r_mv rfl rfl <| r_ad rfl rfl rfl (wadd64 (by omega)) <| r_as rfl rfl <| r_nl <| WE.blk_n ?_; rotate_left)
                    exact WE.back (f, s2.extract mn.toNat s2.size, insL l k (n + dv), n + dv, (k : Int) + 1, bias2, p2) ⟨e, by dsimp only; omega, by dsimp only; omega, by dsimp only; omega, by dsimp only; omega, hA⟩ (by dsimp only; omega) ⟨rfl, rfl, rfl, rfl, rfl, rfl, trivial⟩ Mem.keep
                  · rw [if_pos (.inr v2)] at e
                    have hv2 : ∀ m1, PureC Tryz.prog 59 [.int .i32 (n + dv)] w0 m1 (.bool false) := fun m1 => by have := validRune_spec (n + dv) w0 m1; rwa [decide_eq_false v2] at this
                    refine WX.pure rfl rfl (hv2 _) rfl rfl ?_
                    (refine r_no rfl rfl rfl <| r_pF rfl rfl rfl <| r_nx h104 <| c_cT rfl <| c_sq fun k118 h118 => c_rg <| r_mv rfl rfl ?_; rotate_left)
                    refine WX.call (m1 := []) (m2 := [OwnR p l]) rfl rfl rfl (noneD_spec _ _) rfl rfl (fun b _ => ?_)
                    (refine r_ex rfl rfl rfl <| r_ex rfl rfl rfl <| r_as rfl rfl <| r_as rfl rfl <| r_nx h118 <| c_rt <| WE.then_r <| WE.blk_r <| WE.then_r <| WE.blk_r <| WE.then_r ?_; rotate_left)
                    exact WE.ret2 (b, p) rfl rfl rfl rfl (by rw [← e]; rfl) trivial (by rw [← e]; exact Mem.pick [0] (by decide) rfl)
              · rw [decide_eq_false i0] at ha
                (refine r_as rfl rfl <| r_nx h86 <| c_sq fun k94 h94 => c_rg <| r_mv rfl rfl <| r_mv rfl rfl <| r_ls Tryz.underlying47 rfl rfl <| r_ad rfl rfl rfl (wadd64 (by omega)) <| r_mv rfl rfl <| r_eqF rfl rfl rfl (by omega) ?_; rotate_left)
                refine WX.pure rfl rfl (ha _) rfl rfl ?_
                (refine r_as rfl rfl <| r_nx h94 <| c_sq fun k96 h96 => c_rg <| r_mv rfl rfl <| r_mv rfl rfl <| r_ad rfl rfl rfl (wadd64 (by omega)) <| r_as rfl rfl <| r_nx h96 <| c_sq fun k98 h98 => c_rg <| r_mv rfl rfl <| r_mv rfl rfl <| r_mv rfl rfl <| r_ls Tryz.underlying47 rfl rfl <| r_ad rfl rfl rfl (wadd64 (by omega)) <| r_qu rfl rfl rfl (by omega) (wquo64 (by omega)) <| r_ad rfl rfl rfl (wadd64 (by omega)) <| r_as rfl rfl <| r_nx h98 <| c_sq fun k100 h100 => c_rg <| r_mv rfl rfl <| r_mv rfl rfl <| r_ls Tryz.underlying47 rfl rfl <| r_ad rfl rfl rfl (wadd64 (by omega)) <| r_re rfl rfl rfl (by omega) (wrem (by omega)) <| r_as rfl rfl <| r_nx h100 <| c_sq fun k102 h102 => c_sq fun k104 h104 => c_rg <| r_mv rfl rfl ?_; rotate_left)
                obtain ⟨k, hk⟩ := Int.eq_ofNat_of_zero_le d2
                rw [hk, Int.toNat_natCast] at e
                rw [hk]
                generalize (i + q) / ((l.length : Int) + 1) = dv at e d0 d1 ⊢
                by_cases v1 : 1114111 < n + dv
                · rw [if_pos (.inl v1)] at e
                  (refine r_gtT rfl rfl rfl (by omega) <| r_mv rfl rfl <| r_sk rfl rfl <| r_sk rfl rfl <| r_sk rfl rfl <| r_sk rfl rfl <| r_pT rfl rfl rfl <| r_nx h104 <| c_cT rfl <| c_sq fun k116 h116 => c_rg <| r_mv rfl rfl ?_; rotate_left)
                  refine WX.call (m1 := []) (m2 := [OwnR p l]) rfl rfl rfl (noneD_spec _ _) rfl rfl (fun b _ => ?_)
                  (refine r_ex rfl rfl rfl <| r_ex rfl rfl rfl <| r_as rfl rfl <| r_as rfl rfl <| r_nx h116 <| c_rt <| WE.then_r <| WE.blk_r <| WE.then_r <| WE.blk_r <| WE.then_r ?_; rotate_left)
                  exact WE.ret2 (b, p) rfl rfl rfl rfl (by rw [← e]; rfl) trivial (by rw [← e]; exact Mem.pick [0] (by decide) rfl)
                · (refine r_gtF rfl rfl rfl (by omega) <| r_mv rfl rfl <| r_mv rfl rfl <| r_cv rfl (cv_int (k' := .i32) rfl Tryz.underlying21 (w32 (by omega))) rfl ?_; rotate_left)
                  by_cases v2 : ScP (n + dv)
                  · rw [if_neg (fun h => h.elim v1 (fun h => h v2))] at e
                    have hv2 : ∀ m1, PureC Tryz.prog 59 [.int .i32 (n + dv)] w0 m1 (.bool true) := fun m1 => by have := validRune_spec (n + dv) w0 m1; rwa [decide_eq_true v2] at this
                    refine WX.pure rfl rfl (hv2 _) rfl rfl ?_
                    (refine r_no rfl rfl rfl <| r_pF rfl rfl rfl <| r_nx h104 <| c_cF rfl <| c_sk <| WE.then_n h102 <| c_sq fun k118 h118 => c_rg <| r_mv rfl rfl <| r_mv rfl rfl <| r_mv rfl rfl <| r_cv rfl (cv_int (k' := .i32) rfl Tryz.underlying21 (w32 (by omega))) rfl <| r_bo Tryz.underlying47 rfl (fun _ => by kernel_rfl) rfl rfl rfl (fun _ => ?_); rotate_left)
                    (rotate_left)
                    rename_i vb
                    refine WX.mem (m' := [OwnR p l, .own (some ⟨vb, 0, none⟩) 1 1 [.int .i32 (n + dv)] 21 1]) (Mem.pick [1, 0] (by decide) rfl) ?_
                    refine WX.call (m1 := [OwnR p l, .own (some ⟨vb, 0, none⟩) 1 1 [.int .i32 (n + dv)] 21 1]) (m2 := []) rfl rfl rfl (insert_spec p l k (n + dv) vb (by omega) (by omega) _ _) rfl rfl (fun p2 _ => ?_)
                    have hl2 := insL_length l k (n + dv) (by omega)
                    (refine r_as rfl rfl <| r_nx h118 <| c_rg <| r_mv rfl rfl <| r_ad rfl rfl rfl (wadd64 (by omega)) <| r_as rfl rfl <| r_nl <| WE.blk_n ?_; rotate_left)
                    exact WE.back (f, s2.extract mn.toNat s2.size, insL l k (n + dv), n + dv, (k : Int) + 1, bias2, p2) ⟨e, by dsimp only; omega, by dsimp only; omega, by dsimp only; omega, by dsimp only; omega, hA⟩ (by dsimp only; omega) ⟨rfl, rfl, rfl, rfl, rfl, rfl, trivial⟩ Mem.keep
                  · rw [if_pos (.inr v2)] at e
                    have hv2 : ∀ m1, PureC Tryz.prog 59 [.int .i32 (n + dv)] w0 m1 (.bool false) := fun m1 => by have := validRune_spec (n + dv) w0 m1; rwa [decide_eq_false v2] at this
                    refine WX.pure rfl rfl (hv2 _) rfl rfl ?_
                    (refine r_no rfl rfl rfl <| r_pF rfl rfl rfl <| r_nx h104 <| c_cT rfl <| c_sq fun k118 h118 => c_rg <| r_mv rfl rfl ?_; rotate_left)
                    refine WX.call (m1 := []) (m2 := [OwnR p l]) rfl rfl rfl (noneD_spec _ _) rfl rfl (fun b _ => ?_)
                    (refine r_ex rfl rfl rfl <| r_ex rfl rfl rfl <| r_as rfl rfl <| r_as rfl rfl <| r_nx h118 <| c_rt <| WE.then_r <| WE.blk_r <| WE.then_r <| WE.blk_r <| WE.then_r ?_; rotate_left)
                    exact WE.ret2 (b, p) rfl rfl rfl rfl (by rw [← e]; rfl) trivial (by rw [← e]; exact Mem.pick [0] (by decide) rfl)
end Go.Proofs.YtkggplnigjlegaaGreatDoor

/- puny.Encode in plain Lean: what it computes, and the bounds that its walk wants. -/
namespace Go.Proofs.YtkggplnigjlegaaGreatDoor
open Go.RowKit Go.Gp

def b8 (c : Int) : UInt8 := UInt8.ofNat c.toNat
theorem b8_toNat {c : Int} (h : 0 ≤ c) (h2 : c ≤ 255) : ((b8 c).toNat : Int) = c := by
  unfold b8
  rw [UInt8.toNat_ofNat']
  omega
/-- The plain ones. -/
def basics (l : List Int) : List UInt8 := (l.filter fun c => decide (c < 128)).map b8
theorem basics_snoc (l : List Int) (c : Int) : basics (l ++ [c]) = if c < 128 then basics l ++ [b8 c] else basics l := by
  unfold basics
  rw [List.filter_append]
  by_cases h : c < 128
  · simp [h]
  · simp [h]
theorem basics_length (l : List Int) : (basics l).length = l.countP fun c => decide (c < 128) := by simp [basics, List.countP_eq_length_filter]
/-- The least one that is not below n. -/
def minGe (n : Int) (l : List Int) : Int := l.foldl (fun m c => if n ≤ c then min m c else m) 1114111
theorem minGe_snoc (n : Int) (l : List Int) (c : Int) : minGe n (l ++ [c]) = if n ≤ c then min (minGe n l) c else minGe n l := by simp [minGe]
/-- delta, the bias, how many, the text. -/
abbrev ES := Int × Int × Nat × List UInt8
def encStep (n : Int) (basic : Nat) (s : ES) (c : Int) : ES :=
  let d := if c < n then s.1 + 1 else s.1
  if c = n then (0, adaptP d (s.2.2.1 + 1) (decide (s.2.2.1 = basic)), s.2.2.1 + 1, s.2.2.2 ++ numP d s.2.1) else (d, s.2.1, s.2.2.1, s.2.2.2)
def encIn (n : Int) (basic : Nat) (l : List Int) (s : ES) : ES := l.foldl (encStep n basic) s
theorem encIn_snoc (n : Int) (basic : Nat) (l : List Int) (c : Int) (s : ES) : encIn n basic (l ++ [c]) s = encStep n basic (encIn n basic l s) c := by simp [encIn]
def encRound (l : List Int) (basic : Nat) (n : Int) (s : ES) : ES :=
  encIn (minGe n l) basic l (s.1 + (minGe n l - n) * (s.2.2.1 + 1), s.2.1, s.2.2.1, s.2.2.2)
def encOut (l : List Int) (basic : Nat) : Nat → Int → ES → List UInt8
  | 0, _, s => s.2.2.2
  | f + 1, n, s => if s.2.2.1 < l.length then encOut l basic f (minGe n l + 1) ((encRound l basic n s).1 + 1, (encRound l basic n s).2) else s.2.2.2
def encP (l : List Int) : List UInt8 :=
  encOut l (basics l).length (l.length + 1) 128 (0, 72, (basics l).length, if 0 < (basics l).length then basics l ++ [45] else [])

/-- How many are below n. -/
def below (n : Int) (l : List Int) : Nat := l.countP fun c => decide (c < n)
theorem minGe_props (n : Int) (l : List Int) (hl : ∀ c ∈ l, c ≤ 1114111) : minGe n l ≤ 1114111 ∧ (∀ c ∈ l, n ≤ c → minGe n l ≤ c) ∧ (minGe n l ∈ l ∧ n ≤ minGe n l ∨ (minGe n l = 1114111 ∧ ∀ c ∈ l, c < n ∨ c = 1114111)) := by
  have key : ∀ k (l : List Int), l.length = k → (∀ c ∈ l, c ≤ 1114111) → minGe n l ≤ 1114111 ∧ (∀ c ∈ l, n ≤ c → minGe n l ≤ c) ∧ (minGe n l ∈ l ∧ n ≤ minGe n l ∨ (minGe n l = 1114111 ∧ ∀ c ∈ l, c < n ∨ c = 1114111)) := by
    intro k
    induction k with
    | zero =>
      intro l hk _
      have : l = [] := List.eq_nil_of_length_eq_zero hk
      subst this
      exact ⟨by simp [minGe], by simp, .inr ⟨by simp [minGe], by simp⟩⟩
    | succ k ih =>
      intro l hk hl
      rcases List.eq_nil_or_concat l with rfl | ⟨t, u, rfl⟩
      · simp at hk
      · rw [List.concat_eq_append] at hk hl ⊢
        obtain ⟨i1, i2, i3⟩ := ih t (by simpa using hk) (fun c hc => hl c (by simp [hc]))
        have hu := hl u (by simp)
        rw [minGe_snoc]
        by_cases h : n ≤ u
        · rw [if_pos h]
          refine ⟨by omega, fun c hc hn => ?_, ?_⟩
          · rcases List.mem_append.1 hc with hc | hc
            · have := i2 c hc hn; omega
            · rw [List.mem_singleton] at hc; omega
          · left
            rcases i3 with ⟨j1, j2⟩ | ⟨j1, j2⟩
            · by_cases hm : minGe n t ≤ u
              · rw [Int.min_eq_left hm]; exact ⟨by simp [j1], j2⟩
              · rw [Int.min_eq_right (by omega)]; exact ⟨by simp, h⟩
            · rw [Int.min_eq_right (by omega)]; exact ⟨by simp, h⟩
        · rw [if_neg h]
          refine ⟨i1, fun c hc hn => ?_, ?_⟩
          · rcases List.mem_append.1 hc with hc | hc
            · exact i2 c hc hn
            · rw [List.mem_singleton] at hc; omega
          · rcases i3 with ⟨j1, j2⟩ | ⟨j1, j2⟩
            · exact .inl ⟨by simp [j1], j2⟩
            · refine .inr ⟨j1, fun c hc => ?_⟩
              rcases List.mem_append.1 hc with hc | hc
              · exact j2 c hc
              · rw [List.mem_singleton] at hc; omega
  exact key l.length l rfl hl
/-- Where some are left, the least one is there. -/
theorem minGe_mem {n : Int} {l : List Int} (hl : ∀ c ∈ l, c ≤ 1114111) (h : below n l < l.length) : minGe n l ∈ l ∧ n ≤ minGe n l := by
  obtain ⟨h1, h2, h3⟩ := minGe_props n l hl
  rcases h3 with h3 | ⟨h3, h4⟩
  · exact h3
  · have : ∃ c ∈ l, ¬ c < n := by
      refine Classical.byContradiction fun hc => ?_
      have : l.countP (fun c => decide (c < n)) = l.length := by
        rw [List.countP_eq_length]
        intro c hc'
        exact decide_eq_true (Classical.byContradiction fun h => hc ⟨c, hc', h⟩)
      unfold below at h
      omega
    obtain ⟨c, hc, hn⟩ := this
    have hc1 : c = 1114111 := by rcases h4 c hc with h | h <;> omega
    rw [h3, ← hc1]
    exact ⟨hc, by omega⟩
theorem below_min {n : Int} {l : List Int} (hl : ∀ c ∈ l, c ≤ 1114111) (h : n ≤ minGe n l) : below (minGe n l) l = below n l := by
  obtain ⟨h1, h2, _⟩ := minGe_props n l hl
  unfold below
  refine List.countP_congr fun c hc => ?_
  simp only [decide_eq_true_eq]
  constructor
  · intro h5
    refine Classical.byContradiction fun h6 => ?_
    have := h2 c hc (by omega)
    omega
  · intro h5; omega
theorem below_succ (m : Int) (l : List Int) : below (m + 1) l = below m l + l.countP fun c => decide (c = m) := by
  induction l with
  | nil => rfl
  | cons c l ih =>
    unfold below at *
    rw [List.countP_cons, List.countP_cons, List.countP_cons, ih]
    by_cases h1 : c < m
    · simp [h1, show c < m + 1 by omega, show ¬ c = m by omega]; omega
    · by_cases h2 : c = m
      · have a1 : decide (c < m + 1) = true := decide_eq_true (by omega)
        have a2 : decide (c < m) = false := decide_eq_false h1
        have a3 : decide (c = m) = true := decide_eq_true h2
        rw [a1, a2, a3, if_pos rfl, if_neg (by decide : ¬ false = true)]
        omega
      · simp [h1, h2, show ¬ c < m + 1 by omega]
/-- The state inside a round. -/
theorem encIn_props (m : Int) (basic : Nat) (s : ES) (hs : 0 ≤ s.1 ∧ s.1 ≤ 1000000000000) (hb : 0 ≤ s.2.1 ∧ s.2.1 ≤ 1000) : ∀ (k : Nat) (l : List Int), l.length = k → k ≤ 1000000 →
    (0 ≤ (encIn m basic l s).1 ∧ (encIn m basic l s).1 ≤ s.1 + k) ∧ (0 ≤ (encIn m basic l s).2.1 ∧ (encIn m basic l s).2.1 ≤ 1000) ∧ (encIn m basic l s).2.2.1 = s.2.2.1 + l.countP (fun c => decide (c = m)) ∧ (encIn m basic l s).2.2.2.length ≤ s.2.2.2.length + 20 * l.countP (fun c => decide (c = m)) := by
  intro k
  induction k with
  | zero =>
    intro l hk _
    have : l = [] := List.eq_nil_of_length_eq_zero hk
    subst this
    exact ⟨by simp [encIn]; omega, by simp [encIn]; omega, by simp [encIn], by simp [encIn]⟩
  | succ k ih =>
    intro l hk hk2
    rcases List.eq_nil_or_concat l with rfl | ⟨t, u, rfl⟩
    · simp at hk
    · rw [List.concat_eq_append] at hk ⊢
      obtain ⟨i1, i2, i3, i4⟩ := ih t (by simpa using hk) (by omega)
      rw [encIn_snoc, List.countP_append]
      unfold encStep
      dsimp only
      have hd : 0 ≤ (if u < m then (encIn m basic t s).1 + 1 else (encIn m basic t s).1) ∧ (if u < m then (encIn m basic t s).1 + 1 else (encIn m basic t s).1) ≤ s.1 + k + 1 := by split <;> omega
      generalize (if u < m then (encIn m basic t s).1 + 1 else (encIn m basic t s).1) = d at hd
      by_cases hu : u = m
      · rw [if_pos hu]
        have ha := adaptP_bd (delta := d) (many := ((encIn m basic t s).2.2.1 : Int) + 1) (by omega) (decide ((encIn m basic t s).2.2.1 = basic))
        have hn := numL_len (encIn m basic t s).2.1 20 d 36
        refine ⟨by dsimp only; omega, ha, ?_, ?_⟩
        · simp [hu, i3]; omega
        · have e1 : [u].countP (fun c => decide (c = m)) = 1 := by simp [hu]
          simp only [List.length_append, numP, e1]; omega
      · rw [if_neg hu]
        refine ⟨by dsimp only; omega, i2, ?_, ?_⟩
        · simp [hu, i3]
        · have e1 : [u].countP (fun c => decide (c = m)) = 0 := by simp [hu]
          simp only [e1]; omega
end Go.Proofs.YtkggplnigjlegaaGreatDoor

/- puny.Encode: the walk. -/
namespace Go.Proofs.YtkggplnigjlegaaGreatDoor
open Go.RowKit Go.Gp

def Sc (l : List Int) : Prop := ∀ c ∈ l, ScP c
theorem Sc.getD {l : List Int} (h : Sc l) {i : Nat} (hi : i < l.length) : ScP (l.getD i 0) := h _ (by simp [hi])
set_option maxRecDepth 100000 in
theorem encode_spec (A : Option Addr) (c : Nat) (l : List Int) (hn : l.length ≤ 65536) (hl : Sc l) (w0 : World) (m0 : List Res) (hA : Rd w0 m0 A (runes l)) :
    PureC Tryz.prog 64 [.slice A l.length c] w0 m0 (.tuple #[.string (strOf (encP l)), .nilIface]) := by
  have hany : l.any (fun c => !decide (ScP c)) = false := by
    rw [List.any_eq_false]
    intro x hx
    simp [hl x hx]
  refine Ct.of Tryz.func64 rfl (by kernel_rfl) rfl ?_
  (refine c_sq fun k10 h10 => c_rg <| r_as rfl rfl <| r_as rfl rfl <| r_nx h10 <| c_sq fun k12 h12 => c_rg <| r_as rfl rfl <| r_nx h12 <| c_sq fun k14 h14 => c_sq fun k16 h16 => c_rg <| r_mv rfl rfl <| r_ls Tryz.underlying47 rfl rfl <| r_gtF rfl rfl rfl (by omega) <| r_mv rfl rfl <| r_mv rfl rfl <| r_mv rfl rfl ?_; rotate_left)
  refine WX.pure (v := .bool false) rfl rfl ?_ rfl rfl ?_
  · have := containsFunc_spec A c l 94 [] (fun c => !decide (ScP c)) (by omega) w0 m0 hA (fun c m => notValid2_spec c w0 (m ++ m0))
    rw [hany] at this
    exact this
  (refine r_pF rfl rfl rfl <| r_nx h16 <| c_cF rfl <| c_sk <| WE.then_n h14 <| c_sq fun k18 h18 => c_rg <| r_al (z := .agg #[.pointer none, .slice none 0 0]) (cs := [.pointer none, .slice none 0 0]) (fun _ => by kernel_rfl) rfl rfl (fun _ => ?_); refine r_nx h18 <| c_sq fun k21 h21 => c_sq fun k23 h23 => c_rg <| r_mv rfl rfl <| r_ls Tryz.underlying47 rfl rfl <| r_mv rfl rfl <| r_nx h23 <| c_bl ?_; rotate_left)
  rename_i g
  refine WC.loop (α := Nat × Bool × (Option Addr × Nat)) (fun x => [(0, .slice A l.length c), (5, .pointer (some ⟨g, 0, none⟩)), (27, .slice A l.length c), (28, .int .i64 l.length), (29, .int .i64 x.1)])
    (fun x => [BB x.2.1 g x.2.2 (basics (l.take x.1)), OwnB x.2.2 (basics (l.take x.1))]) (fun x => x.1 ≤ l.length ∧ (basics (l.take x.1)).length ≤ x.1 ∧ (basics (l.take x.1) = [] → x.2.2 = (none, 0))) (fun x => l.length - x.1)
    (0, false, (none, 0)) ⟨by simp, by simp [basics], fun _ => rfl⟩ ⟨rfl, rfl, rfl, rfl, rfl, trivial⟩ (fun w hw => Mem.pick (m' := [BB false g (none, 0) [], OwnB (none, 0) []]) [1, 0] (by decide) rfl w (Mem.addNil _ _ w hw)) ?_
  rintro ⟨i, u, p⟩ ⟨hi, hbl, hbp⟩
  dsimp only at hi hbl hbp ⊢
  by_cases hlt : i < l.length
  · have hc := hl.getD hlt
    have hs := basics_snoc (l.take i) (l.getD i 0)
    rw [← take_next hlt] at hs
    by_cases hc2 : l.getD i 0 < 128
    · rw [if_pos hc2] at hs
      have hb := b8_toNat hc.1.1 (by omega)
      (refine c_sq fun k38 h38 => c_rg <| r_ltT rfl rfl rfl (by omega) <| r_nx h38 <| c_sq fun k40 h40 => c_cT rfl <| c_sk <| WE.then_n h40 <| c_sq fun k42 h42 => c_bl <| c_sq fun k44 h44 => c_rg <| r_im (hA.app _) Tryz.underlying47 (by kernel_rfl) rfl rfl rfl rfl (by omega) (by omega) <| r_li (i) (hA.app _) Tryz.underlying21 rfl rfl rfl (by omega) <| r_as rfl rfl <| r_nx h44 <| c_sq fun k46 h46 => c_rg <| r_mv rfl rfl <| r_ltT rfl rfl rfl (by omega) <| r_nx h46 <| c_cT rfl <| c_rg <| r_mv rfl rfl ?_; rotate_left)
      rw [← hb]
      refine WX.call (m1 := [BB u g p (basics (l.take i)), OwnB p (basics (l.take i))]) (m2 := []) rfl rfl rfl (writeAscii_spec u g p (basics (l.take i)) (b8 (l.getD i 0)) (by omega) (by omega) _ _) rfl rfl (fun p2 _ => ?_)
      rw [← hs]
      (refine r_nl <| WE.blk_n <| WE.then_n h42 <| c_rg <| r_ad rfl rfl rfl (wadd64 (by omega)) <| r_mv rfl rfl <| r_nl ?_; rotate_left)
      exact WE.back (i + 1, true, p2) ⟨by dsimp only; omega, by dsimp only; rw [hs]; simp; omega, fun h => by dsimp only at h; rw [hs] at h; simp at h⟩ (by dsimp only; omega) ⟨rfl, rfl, rfl, rfl, rfl, trivial⟩ Mem.keep
    · rw [if_neg hc2] at hs
      (refine c_sq fun k37 h37 => c_rg <| r_ltT rfl rfl rfl (by omega) <| r_nx h37 <| c_sq fun k39 h39 => c_cT rfl <| c_sk <| WE.then_n h39 <| c_sq fun k41 h41 => c_bl <| c_sq fun k43 h43 => c_rg <| r_im (hA.app _) Tryz.underlying47 (by kernel_rfl) rfl rfl rfl rfl (by omega) (by omega) <| r_li (i) (hA.app _) Tryz.underlying21 rfl rfl rfl (by omega) <| r_as rfl rfl <| r_nx h43 <| c_sq fun k45 h45 => c_rg <| r_mv rfl rfl <| r_ltF rfl rfl rfl (by omega) <| r_nx h45 <| c_cF rfl <| c_sk <| WE.blk_n <| WE.then_n h41 <| c_rg <| r_ad rfl rfl rfl (wadd64 (by omega)) <| r_mv rfl rfl <| r_nl ?_; rotate_left)
      exact WE.back (i + 1, u, p) ⟨by dsimp only; omega, by dsimp only; rw [hs]; omega, fun h => by dsimp only at h; rw [hs] at h; exact hbp h⟩ (by dsimp only; omega) ⟨rfl, rfl, rfl, rfl, rfl, trivial⟩ (by dsimp only; rw [hs]; exact Mem.keep)
  · have e : l.take i = l := List.take_of_length_le (by omega)
    rw [e] at hbl hbp ⊢
    (refine c_sq fun k35 h35 => c_rg <| r_ltF rfl rfl rfl (by omega) <| r_nx h35 <| c_sq fun k37 h37 => c_cF rfl <| c_ex <| WE.then_x <| WE.then_x <| WE.blk_x <| WE.then_n h21 <| c_sq fun k39 h39 => c_rg ?_; rotate_left)
    refine WX.call (m1 := [BB u g p (basics l)]) (m2 := [OwnB p (basics l)]) rfl rfl rfl (bLen_spec u g p (basics l) _ _) rfl rfl (fun _ _ => ?_)
    obtain ⟨out0, ho⟩ : ∃ o, o = (if 0 < (basics l).length then basics l ++ [45] else []) := ⟨_, rfl⟩
    have hcnt := basics_length l
    have hcl : (basics l).length ≤ l.length := by omega
    have hol : out0.length ≤ (basics l).length + 1 := by rw [ho]; split <;> simp
    have hE : encP l = encOut l (basics l).length (l.length + 1) 128 (0, 72, (basics l).length, out0) := by rw [ho]; rfl
    (refine r_as rfl rfl <| r_nx h39 ?_)
    refine WC.cut (α := Bool × (Option Addr × Nat)) (fun x => [(0, .slice A l.length c), (5, .pointer (some ⟨g, 0, none⟩)), (8, .int .i64 (basics l).length)]) (fun x => [BB x.1 g x.2 out0, OwnB x.2 out0]) (fun x => out0 = [] → x.2 = (none, 0)) ?_ ?_
    · by_cases h0 : 0 < (basics l).length
      · rw [if_pos h0] at ho
        subst ho
        (refine c_sq fun k53 h53 => c_rg <| r_mv rfl rfl <| r_gtT rfl rfl rfl (by omega) <| r_nx h53 <| c_cT rfl <| c_rg ?_; rotate_left)
        refine WX.call (m1 := [BB u g p (basics l), OwnB p (basics l)]) (m2 := []) rfl rfl rfl (writeByte_spec u g p (basics l) 45 (by omega) _ _) rfl rfl (fun p2 _ => ?_)
        (refine r_nl ?_; rotate_left)
        exact WE.met (true, p2) (fun h => by simp at h) ⟨rfl, rfl, rfl, trivial⟩ Mem.keep
      · have hb0 : basics l = [] := List.eq_nil_of_length_eq_zero (by omega)
        rw [if_neg h0] at ho
        subst ho
        (refine c_sq fun k54 h54 => c_rg <| r_mv rfl rfl <| r_gtF rfl rfl rfl (by omega) <| r_nx h54 <| c_cF rfl <| c_sk ?_; rotate_left)
        exact WE.met (u, p) (fun _ => hbp hb0) ⟨rfl, rfl, rfl, trivial⟩ (by dsimp only; rw [hb0]; exact Mem.keep)
    · clear hbp hbl hlt hi e ho
      rintro ⟨u, p⟩ hp
      dsimp only at hp ⊢
      have hmx : ∀ x ∈ l, x ≤ 1114111 := fun x hx => (hl x hx).1.2
      (refine c_sq fun k53 h53 => c_rg <| r_as rfl rfl <| r_as rfl rfl <| r_as rfl rfl <| r_nx h53 <| c_sq fun k55 h55 => c_sq fun k57 h57 => c_rg <| r_mv rfl rfl <| r_as rfl rfl <| r_nx h57 <| c_bl ?_; rotate_left)
      refine WC.loop (α := Nat × Int × ES × Bool × (Option Addr × Nat)) (fun x => [(0, .slice A l.length c), (5, .pointer (some ⟨g, 0, none⟩)), (8, .int .i64 (basics l).length), (9, .int .i64 x.2.1), (10, .int .i64 x.2.2.1.1), (11, .int .i64 x.2.2.1.2.1), (12, .int .i64 x.2.2.1.2.2.1)])
        (fun x => [BB x.2.2.2.1 g x.2.2.2.2 x.2.2.1.2.2.2, OwnB x.2.2.2.2 x.2.2.1.2.2.2])
        (fun x => encOut l (basics l).length x.1 x.2.1 x.2.2.1 = encP l ∧ l.length < x.1 + x.2.2.1.2.2.1 ∧ x.2.2.1.2.2.1 = below x.2.1 l ∧ (128 ≤ x.2.1 ∧ x.2.1 ≤ 1114112) ∧ (0 ≤ x.2.2.1.1 ∧ x.2.2.1.1 ≤ x.2.1 * (l.length + 1)) ∧ (0 ≤ x.2.2.1.2.1 ∧ x.2.2.1.2.1 ≤ 1000) ∧ x.2.2.1.2.2.2.length ≤ l.length + 1 + 20 * x.2.2.1.2.2.1 ∧ (x.2.2.1.2.2.2 = [] → x.2.2.2.2 = (none, 0)))
        (fun x => l.length - x.2.2.1.2.2.1) (l.length + 1, 128, (0, 72, (basics l).length, out0), u, p)
        ⟨hE.symm, by dsimp only; omega, hcnt, by dsimp only; omega, by dsimp only; omega, by dsimp only; omega, by dsimp only; omega, hp⟩ ⟨rfl, rfl, rfl, rfl, rfl, rfl, rfl, trivial⟩ Mem.keep ?_
      clear hp u p hol hE out0
      rintro ⟨f, n, ⟨delta, bias, h, out⟩, u, p⟩ ⟨e1, e2, e3, e4, e5, e6, e7, e8⟩
      dsimp only at e1 e2 e3 e4 e5 e6 e7 e8 ⊢
      have hbl2 : below n l ≤ l.length := List.countP_le_length
      by_cases hlt : h < l.length
      · cases f with
        | zero => omega
        | succ f =>
          rw [encOut, if_pos hlt] at e1
          obtain ⟨hm1, hm2⟩ := minGe_mem hmx (n := n) (by omega)
          have hmb := hmx _ hm1
          have q0 : 0 ≤ (minGe n l - n) * ((h : Int) + 1) := Int.mul_nonneg (by omega) (by omega)
          have q1 : (minGe n l - n) * ((h : Int) + 1) ≤ (minGe n l - n) * ((l.length : Int) + 1) := Int.mul_le_mul_of_nonneg_left (by omega) (by omega)
          have q2 : n * ((l.length : Int) + 1) + (minGe n l - n) * ((l.length : Int) + 1) = minGe n l * ((l.length : Int) + 1) := by rw [← Int.add_mul]; congr 1; omega
          have q3 : minGe n l * ((l.length : Int) + 1) ≤ 1114111 * 65537 := Int.mul_le_mul hmb (by omega) (by omega) (by omega)
          have q4 : 0 ≤ n * ((l.length : Int) + 1) := Int.mul_nonneg (by omega) (by omega)
          have q5 : (minGe n l + 1) * ((l.length : Int) + 1) = minGe n l * ((l.length : Int) + 1) + ((l.length : Int) + 1) := by rw [Int.add_mul, Int.one_mul]
          (refine c_sq fun k93 h93 => c_sq fun k95 h95 => c_rg <| r_mv rfl rfl <| r_mv rfl rfl <| r_ls Tryz.underlying47 rfl rfl <| r_ltT rfl rfl rfl (by omega) <| r_nx h95 <| c_cT rfl <| c_sk <| WE.then_n h93 <| c_bl <| c_sq fun k97 h97 => c_rg <| r_as rfl rfl <| r_nx h97 <| c_sq fun k99 h99 => c_sq fun k101 h101 => c_rg <| r_mv rfl rfl <| r_ls Tryz.underlying47 rfl rfl <| r_mv rfl rfl <| r_nx h101 <| c_bl ?_; rotate_left)
          refine WC.loop (α := Nat) (fun i => [(0, .slice A l.length c), (5, .pointer (some ⟨g, 0, none⟩)), (8, .int .i64 (basics l).length), (9, .int .i64 n), (10, .int .i64 delta), (11, .int .i64 bias), (12, .int .i64 h), (47, .slice A l.length c), (48, .int .i64 l.length), (49, .int .i64 i), (13, .int .i32 (minGe n (l.take i)))])
            (fun _ => [BB u g p out, OwnB p out]) (fun i => i ≤ l.length) (fun i => l.length - i) 0 (by omega) ⟨rfl, rfl, rfl, rfl, rfl, rfl, rfl, rfl, rfl, rfl, rfl, trivial⟩ Mem.keep ?_
          intro i hi
          by_cases hli : i < l.length
          · have hc := hl.getD hli
            have hs := minGe_snoc n (l.take i) (l.getD i 0)
            rw [← take_next hli] at hs
            (refine c_sq fun k109 h109 => c_rg <| r_ltT rfl rfl rfl (by omega) <| r_nx h109 <| c_sq fun k111 h111 => c_cT rfl <| c_sk <| WE.then_n h111 <| c_sq fun k113 h113 => c_bl <| c_sq fun k115 h115 => c_rg <| r_im (hA.app _) Tryz.underlying47 (by kernel_rfl) rfl rfl rfl rfl (by omega) (by omega) <| r_li (i) (hA.app _) Tryz.underlying21 rfl rfl rfl (by omega) <| r_as rfl rfl <| r_nx h115 <| c_sq fun k117 h117 => c_rg <| r_mv rfl rfl <| r_cv rfl (cv_int (k' := .i64) rfl Tryz.underlying3 (w64 (by omega))) rfl <| r_mv rfl rfl ?_; rotate_left)
            by_cases hc2 : n ≤ l.getD i 0
            · rw [if_pos hc2] at hs
              (refine r_geT rfl rfl rfl (by omega) <| r_nx h117 <| c_cT rfl <| c_rg <| r_mv rfl rfl <| r_mv rfl rfl <| r_mn rfl rfl rfl <| r_as rfl rfl <| r_nl <| WE.blk_n <| WE.then_n h113 <| c_rg <| r_ad rfl rfl rfl (wadd64 (by omega)) <| r_mv rfl rfl <| r_nl ?_; rotate_left)
              rw [← hs]
              (rotate_left)
              exact WE.back (i + 1) (by omega) (by omega) ⟨rfl, rfl, rfl, rfl, rfl, rfl, rfl, rfl, rfl, rfl, rfl, trivial⟩ Mem.keep
            · rw [if_neg hc2] at hs
              (refine r_geF rfl rfl rfl (by omega) <| r_nx h117 <| c_cF rfl <| c_sk <| WE.blk_n <| WE.then_n h113 <| c_rg <| r_ad rfl rfl rfl (wadd64 (by omega)) <| r_mv rfl rfl <| r_nl ?_; rotate_left)
              exact WE.back (i + 1) (by omega) (by omega) ⟨rfl, rfl, rfl, rfl, rfl, rfl, rfl, rfl, rfl, rfl, by rw [hs]; rfl, trivial⟩ Mem.keep
          · rw [show l.take i = l from List.take_of_length_le (by omega)]
            (refine c_sq fun k106 h106 => c_rg <| r_ltF rfl rfl rfl (by omega) <| r_nx h106 <| c_sq fun k108 h108 => c_cF rfl <| c_ex <| WE.then_x <| WE.then_x <| WE.blk_x <| WE.then_n h99 <| c_sq fun k110 h110 => c_rg <| r_mv rfl rfl <| r_mv rfl rfl <| r_cv rfl (cv_int (k' := .i64) rfl Tryz.underlying3 (w64 (by omega))) rfl <| r_mv rfl rfl <| r_su rfl rfl rfl (wsub64 (by omega)) <| r_mv rfl rfl <| r_ad rfl rfl rfl (wadd64 (by omega)) <| r_mu rfl rfl rfl (wmul64 (by omega)) <| r_ad rfl rfl rfl (wadd64 (by omega)) <| r_as rfl rfl <| r_nx h110 <| c_sq fun k112 h112 => c_rg <| r_mv rfl rfl <| r_cv rfl (cv_int (k' := .i64) rfl Tryz.underlying3 (w64 (by omega))) rfl <| r_as rfl rfl <| r_nx h112 <| c_sq fun k114 h114 => c_sq fun k116 h116 => c_rg <| r_mv rfl rfl <| r_ls Tryz.underlying47 rfl rfl <| r_mv rfl rfl <| r_nx h116 <| c_bl ?_; rotate_left)
            (rotate_left)
            (rotate_left)
            obtain ⟨s0, hs0⟩ : ∃ s0 : ES, s0 = (delta + (minGe n l - n) * ((h : Int) + 1), bias, h, out) := ⟨_, rfl⟩
            have hd0 : s0.1 = delta + (minGe n l - n) * ((h : Int) + 1) := by rw [hs0]
            have hb0 : s0.2.1 = bias := by rw [hs0]
            have hh0 : s0.2.2.1 = h := by rw [hs0]
            have ho0 : s0.2.2.2 = out := by rw [hs0]
            refine WC.loop (α := Nat × ES × Bool × (Option Addr × Nat)) (fun x => [(0, .slice A l.length c), (5, .pointer (some ⟨g, 0, none⟩)), (8, .int .i64 (basics l).length), (9, .int .i64 (minGe n l)), (10, .int .i64 x.2.1.1), (11, .int .i64 x.2.1.2.1), (12, .int .i64 x.2.1.2.2.1), (72, .slice A l.length c), (73, .int .i64 l.length), (74, .int .i64 x.1)])
              (fun x => [BB x.2.2.1 g x.2.2.2 x.2.1.2.2.2, OwnB x.2.2.2 x.2.1.2.2.2]) (fun x => x.1 ≤ l.length ∧ encIn (minGe n l) (basics l).length (l.take x.1) s0 = x.2.1 ∧ (x.2.1.2.2.2 = [] → x.2.2.2 = (none, 0))) (fun x => l.length - x.1)
              (0, (delta + (minGe n l - n) * ((h : Int) + 1), bias, h, out), u, p) ⟨by simp, by rw [hs0]; rfl, e8⟩ ⟨rfl, rfl, rfl, rfl, rfl, rfl, rfl, rfl, rfl, rfl, trivial⟩ Mem.keep ?_
            rintro ⟨i, ⟨dl, bi, hh, o⟩, u, p⟩ ⟨hi, he, hp⟩
            dsimp only at hi he hp ⊢
            have htl : (l.take i).length = i := by simp; omega
            have pr := encIn_props (minGe n l) (basics l).length s0 (by omega) (by omega) i (l.take i) htl (by omega)
            rw [he] at pr
            obtain ⟨p1, p2, p3, p4⟩ := pr
            have hcp : (l.take i).countP (fun c => decide (c = minGe n l)) ≤ (l.take i).length := List.countP_le_length
            dsimp only at p1 p2 p3 p4
            rw [ho0] at p4
            rw [hh0] at p3
            by_cases hli : i < l.length
            · have hc := hl.getD hli
              have hs := encIn_snoc (minGe n l) (basics l).length (l.take i) (l.getD i 0) s0
              rw [← take_next hli, he] at hs
              unfold encStep at hs
              dsimp only at hs
              (refine c_sq fun k148 h148 => c_rg <| r_ltT rfl rfl rfl (by omega) <| r_nx h148 <| c_sq fun k150 h150 => c_cT rfl <| c_sk <| WE.then_n h150 <| c_sq fun k152 h152 => c_bl <| c_sq fun k154 h154 => c_rg <| r_im (hA.app _) Tryz.underlying47 (by kernel_rfl) rfl rfl rfl rfl (by omega) (by omega) <| r_li (i) (hA.app _) Tryz.underlying21 rfl rfl rfl (by omega) <| r_as rfl rfl <| r_nx h154 <| c_sq fun k156 h156 => c_sq fun k158 h158 => c_rg <| r_mv rfl rfl <| r_cv rfl (cv_int (k' := .i64) rfl Tryz.underlying3 (w64 (by omega))) rfl <| r_mv rfl rfl ?_; rotate_left)
              by_cases hc2 : l.getD i 0 < minGe n l
              · rw [if_pos hc2, if_neg (by omega)] at hs
                (refine r_ltT rfl rfl rfl (by omega) <| r_nx h158 <| c_cT rfl <| c_rg <| r_mv rfl rfl <| r_ad rfl rfl rfl (wadd64 (by omega)) <| r_as rfl rfl <| r_nx h156 <| c_sq fun k163 h163 => c_rg <| r_mv rfl rfl <| r_cv rfl (cv_int (k' := .i64) rfl Tryz.underlying3 (w64 (by omega))) rfl <| r_mv rfl rfl <| r_eqF rfl rfl rfl (by omega) <| r_nx h163 <| c_cF rfl <| c_sk <| WE.blk_n <| WE.then_n h152 <| c_rg <| r_ad rfl rfl rfl (wadd64 (by omega)) <| r_mv rfl rfl <| r_nl ?_; rotate_left)
                (rotate_left)
                exact WE.back (i + 1, (dl + 1, bi, hh, o), u, p) ⟨by dsimp only; omega, hs, hp⟩ (by dsimp only; omega) ⟨rfl, rfl, rfl, rfl, rfl, rfl, rfl, rfl, rfl, rfl, trivial⟩ Mem.keep
              · by_cases hc3 : l.getD i 0 = minGe n l
                · rw [if_neg hc2, if_pos hc3] at hs
                  have hnl := numL_len bi 20 dl 36
                  (refine r_ltF rfl rfl rfl (by omega) <| r_nx h158 <| c_cF rfl <| c_sk <| WE.then_n h156 <| c_sq fun k165 h165 => c_rg <| r_mv rfl rfl <| r_cv rfl (cv_int (k' := .i64) rfl Tryz.underlying3 (w64 (by omega))) rfl <| r_mv rfl rfl <| r_eqT rfl rfl rfl (by omega) <| r_nx h165 <| c_cT rfl <| c_sq fun k167 h167 => c_rg <| r_mv rfl rfl <| r_mv rfl rfl ?_; rotate_left)
                  (rotate_left)
                  refine WX.pure rfl rfl (number_spec dl bi (by omega) (by omega) _ _) rfl rfl ?_
                  refine WX.call (m1 := [BB u g p o, OwnB p o]) (m2 := []) rfl rfl rfl (writeString_spec u g p o (strOf (numP dl bi)) (by show o.length + (numP dl bi).length ≤ _; unfold numP; omega) _ _) rfl rfl (fun p2 _ => ?_)
                  have hne : o ++ numP dl bi ≠ [] := by
                    unfold numP
                    rw [numL]
                    split <;> simp
                  by_cases hbq : hh = (basics l).length
                  · rw [decide_eq_true hbq] at hs
                    (refine r_nx h167 <| c_sq fun k174 h174 => c_rg <| r_mv rfl rfl <| r_mv rfl rfl <| r_ad rfl rfl rfl (wadd64 (by omega)) <| r_mv rfl rfl <| r_mv rfl rfl <| r_eqT rfl rfl rfl (by omega) ?_; rotate_left)
                    refine WX.pure rfl rfl (adapt_spec dl ((hh : Int) + 1) true (by omega) _ _) rfl rfl ?_
                    (refine r_as rfl rfl <| r_nx h174 <| c_sq fun k176 h176 => c_rg <| r_as rfl rfl <| r_nx h176 <| c_rg <| r_mv rfl rfl <| r_ad rfl rfl rfl (wadd64 (by omega)) <| r_as rfl rfl <| r_nl <| WE.blk_n <| WE.then_n h152 <| c_rg <| r_ad rfl rfl rfl (wadd64 (by omega)) <| r_mv rfl rfl <| r_nl ?_; rotate_left)
                    exact WE.back (i + 1, (0, adaptP dl ((hh : Int) + 1) true, hh + 1, o ++ numP dl bi), true, p2) ⟨by dsimp only; omega, hs, fun h => absurd h hne⟩ (by dsimp only; omega) ⟨rfl, rfl, rfl, rfl, rfl, rfl, rfl, rfl, rfl, rfl, trivial⟩ Mem.keep
                  · rw [decide_eq_false hbq] at hs
                    (refine r_nx h167 <| c_sq fun k174 h174 => c_rg <| r_mv rfl rfl <| r_mv rfl rfl <| r_ad rfl rfl rfl (wadd64 (by omega)) <| r_mv rfl rfl <| r_mv rfl rfl <| r_eqF rfl rfl rfl (by omega) ?_; rotate_left)
                    refine WX.pure rfl rfl (adapt_spec dl ((hh : Int) + 1) false (by omega) _ _) rfl rfl ?_
                    (refine r_as rfl rfl <| r_nx h174 <| c_sq fun k176 h176 => c_rg <| r_as rfl rfl <| r_nx h176 <| c_rg <| r_mv rfl rfl <| r_ad rfl rfl rfl (wadd64 (by omega)) <| r_as rfl rfl <| r_nl <| WE.blk_n <| WE.then_n h152 <| c_rg <| r_ad rfl rfl rfl (wadd64 (by omega)) <| r_mv rfl rfl <| r_nl ?_; rotate_left)
                    exact WE.back (i + 1, (0, adaptP dl ((hh : Int) + 1) false, hh + 1, o ++ numP dl bi), true, p2) ⟨by dsimp only; omega, hs, fun h => absurd h hne⟩ (by dsimp only; omega) ⟨rfl, rfl, rfl, rfl, rfl, rfl, rfl, rfl, rfl, rfl, trivial⟩ Mem.keep
                · rw [if_neg hc2, if_neg hc3] at hs
                  (refine r_ltF rfl rfl rfl (by omega) <| r_nx h158 <| c_cF rfl <| c_sk <| WE.then_n h156 <| c_sq fun k164 h164 => c_rg <| r_mv rfl rfl <| r_cv rfl (cv_int (k' := .i64) rfl Tryz.underlying3 (w64 (by omega))) rfl <| r_mv rfl rfl <| r_eqF rfl rfl rfl (by omega) <| r_nx h164 <| c_cF rfl <| c_sk <| WE.blk_n <| WE.then_n h152 <| c_rg <| r_ad rfl rfl rfl (wadd64 (by omega)) <| r_mv rfl rfl <| r_nl ?_; rotate_left)
                  (rotate_left)
                  exact WE.back (i + 1, (dl, bi, hh, o), u, p) ⟨by dsimp only; omega, hs, hp⟩ (by dsimp only; omega) ⟨rfl, rfl, rfl, rfl, rfl, rfl, rfl, rfl, rfl, rfl, trivial⟩ Mem.keep
            · have hta : l.take i = l := List.take_of_length_le (by omega)
              rw [hta] at he p3 p4 hcp
              have hR : encRound l (basics l).length n (delta, bias, h, out) = (dl, bi, hh, o) := by rw [← he, hs0]; rfl
              rw [hR] at e1
              have hpos : 0 < l.countP (fun c => decide (c = minGe n l)) := List.countP_pos_iff.2 ⟨_, hm1, by simp⟩
              have hbs := below_succ (minGe n l) l
              rw [below_min hmx hm2, ← e3] at hbs
              have hil : (i : Int) = l.length := by omega
              (refine c_sq fun k151 h151 => c_rg <| r_ltF rfl rfl rfl (by omega) <| r_nx h151 <| c_sq fun k153 h153 => c_cF rfl <| c_ex <| WE.then_x <| WE.then_x <| WE.blk_x <| WE.then_n h114 <| c_sq fun k155 h155 => c_rg <| r_mv rfl rfl <| r_ad rfl rfl rfl (wadd64 (by omega)) <| r_as rfl rfl <| r_nx h155 <| c_rg <| r_mv rfl rfl <| r_ad rfl rfl rfl (wadd64 (by omega)) <| r_as rfl rfl <| r_nl <| WE.blk_n ?_; rotate_left)
              exact WE.back (f, minGe n l + 1, (dl + 1, bi, hh, o), u, p) ⟨e1, by dsimp only; omega, by dsimp only; omega, by dsimp only; omega, by dsimp only; omega, p2, by dsimp only; omega, hp⟩ (by dsimp only; omega) ⟨rfl, rfl, rfl, rfl, rfl, rfl, rfl, trivial⟩ Mem.keep
      · have hfin : encOut l (basics l).length f n (delta, bias, h, out) = out := by cases f with | zero => rfl | succ f => rw [encOut, if_neg hlt]
        rw [hfin] at e1
        (refine c_sq fun k81 h81 => c_sq fun k83 h83 => c_rg <| r_mv rfl rfl <| r_mv rfl rfl <| r_ls Tryz.underlying47 rfl rfl <| r_ltF rfl rfl rfl (by omega) <| r_nx h83 <| c_cF rfl <| c_ex <| WE.then_x <| WE.then_x <| WE.blk_x <| WE.then_n h55 <| c_sq fun k85 h85 => c_rg ?_; rotate_left)
        refine WX.call (m1 := [BB u g p out, OwnB p out]) (m2 := []) rfl rfl rfl (bString_spec u g p out (by omega) e8 _ _) rfl rfl (fun _ _ => ?_)
        rw [e1]
        (refine r_as rfl rfl <| r_as rfl rfl <| r_nx h85 <| c_rt ?_; rotate_left)
        exact WE.ret2 () rfl rfl rfl rfl rfl trivial Mem.keep
end Go.Proofs.YtkggplnigjlegaaGreatDoor

/- label.One: the walk. -/
namespace Go.Proofs.YtkggplnigjlegaaGreatDoor
open Go.RowKit Go.Gp

theorem insL_mem {l : List Int} {i : Nat} {c x : Int} (h : x ∈ insL l i c) : x ∈ l ∨ x = c := by
  unfold insL at h
  rcases List.mem_append.1 h with h | h
  · exact .inl (List.mem_of_mem_take h)
  · rcases List.mem_cons.1 h with h | h
    · exact .inr h
    · exact .inl (List.mem_of_mem_drop h)
theorem decL_props : ∀ (f : Nat) (s : ByteArray) (l : List Int) (n i bias : Int) (d : List Int) (N : Nat), decL f s l n i bias = some d → (∀ x ∈ l, 0 ≤ x ∧ x ≤ 1114111) → s.size + l.length ≤ N → (0 ≤ i ∧ i ≤ l.length) → (0 ≤ bias ∧ bias ≤ 1000) → (∀ x ∈ d, 0 ≤ x ∧ x ≤ 1114111) ∧ d.length ≤ N
  | 0, s, l, n, i, bias, d, N, h, _, _, _, _ => by cases h
  | f + 1, s, l, n, i, bias, d, N, h, hl, hN, hi, hb => by
    rw [decL] at h
    split at h
    · injection h with h
      subst h
      exact ⟨hl, by omega⟩
    · split at h
      · cases h
      · rename_i g1 g2
        split at h
        · cases h
        · rename_i g3
          obtain ⟨r1, r2⟩ := readP_bd s bias hb
          have d2 : 0 ≤ (i + (readP s bias).1) % ((l.length : Int) + 1) := Int.emod_nonneg _ (by omega)
          have d3 : (i + (readP s bias).1) % ((l.length : Int) + 1) < (l.length : Int) + 1 := Int.emod_lt_of_pos _ (by omega)
          have hsc : ScP (n + (i + (readP s bias).1) / ((l.length : Int) + 1)) := Classical.byContradiction fun h => g3 (.inr h)
          have hl2 := insL_length l ((i + (readP s bias).1) % ((l.length : Int) + 1)).toNat (n + (i + (readP s bias).1) / ((l.length : Int) + 1)) (by omega)
          refine decL_props f _ _ _ _ _ d N h (fun x hx => ?_) ?_ ?_ (adaptP_bd (by omega) _)
          · rcases insL_mem hx with hx | hx
            · exact hl x hx
            · rw [hx]; exact hsc.1
          · rw [ByteArray.size_extract, hl2]; omega
          · rw [hl2]; omega
theorem decP_props {s : ByteArray} {d : List Int} (h : decP s = some d) : (∀ x ∈ d, 0 ≤ x ∧ x ≤ 1114111) ∧ d.length ≤ s.size := by
  have hat := lastL_bd s.data.toList 45 s.size
  unfold decP at h
  split at h
  · cases h
  · split at h
    · refine decL_props _ _ _ _ _ _ d s.size h (fun x hx => ?_) ?_ (by omega) (by omega)
      · obtain ⟨b, _, rfl⟩ := List.mem_map.1 hx
        have := b.toNat_lt
        omega
      · rw [asc_length, ByteArray.size_extract, ByteArray.size_extract]; omega
    · exact decL_props _ _ _ _ _ _ d s.size h (by simp) (by simp) (by simp) (by omega)
def aceB : ByteArray := ⟨#[120, 110, 45, 45]⟩
def sLabel : ByteArray := ⟨#[108, 97, 98, 101, 108]⟩
/-- A name's part in letters below 128, if it may be. -/
def oneP (l : List Int) : Option ByteArray :=
  if l.any (fun c => !decide (ScP c)) then none
  else if preB (runesBytes l) aceB then
    (if l.any (fun c => decide (128 ≤ c)) then none else match decP ((runesBytes l).extract 4 (runesBytes l).size) with
      | none => none
      | some d => if mayP d then some (runesBytes l) else none)
  else if l.any (fun c => decide (128 ≤ c)) then (if MarkP l then none else some (aceB ++ strOf (encP l)))
  else some (runesBytes l)
def oneV : Option ByteArray → Nat → Value
  | none, b => .tuple #[.string ⟨#[]⟩, ecv [(b, sLabel)] 2]
  | some s, _ => .tuple #[.string s, .nilIface]
def oneM : Option ByteArray → Nat → List Res
  | none, b => ecm [(b, sLabel)] 2
  | some _, _ => []
theorem encIn_len (n : Int) (basic : Nat) : ∀ (l : List Int) (s : ES), (encIn n basic l s).2.2.2.length ≤ s.2.2.2.length + 20 * l.length
  | [], s => by simp [encIn]
  | c :: l, s => by
    have h1 := encIn_len n basic l (encStep n basic s c)
    have h2 : (encStep n basic s c).2.2.2.length ≤ s.2.2.2.length + 20 := by
      unfold encStep
      dsimp only
      split
      · have := numL_len s.2.1 20 (if c < n then s.1 + 1 else s.1) 36
        simp only [List.length_append, numP]
        omega
      · dsimp only; omega
    have h3 : encIn n basic (c :: l) s = encIn n basic l (encStep n basic s c) := rfl
    rw [h3, List.length_cons]
    omega
theorem encOut_len (l : List Int) (basic : Nat) : ∀ (f : Nat) (n : Int) (s : ES), (encOut l basic f n s).length ≤ s.2.2.2.length + 20 * l.length * f
  | 0, n, s => by simp [encOut]
  | f + 1, n, s => by
    rw [encOut]
    split
    · have h1 := encOut_len l basic f (minGe n l + 1) ((encRound l basic n s).1 + 1, (encRound l basic n s).2)
      have h2 := encIn_len (minGe n l) basic l (s.1 + (minGe n l - n) * (s.2.2.1 + 1), s.2.1, s.2.2.1, s.2.2.2)
      have h3 : (encRound l basic n s).2.2.2.length ≤ s.2.2.2.length + 20 * l.length := h2
      rw [Nat.mul_add, Nat.mul_one]
      dsimp only at h1
      omega
    · rw [Nat.mul_add]; omega
theorem encP_len (l : List Int) : (encP l).length ≤ l.length + 1 + 20 * l.length * (l.length + 1) := by
  have h1 := encOut_len l (basics l).length (l.length + 1) 128 (0, 72, (basics l).length, if 0 < (basics l).length then basics l ++ [45] else [])
  have h2 : (basics l).length ≤ l.length := by rw [basics_length]; exact List.countP_le_length
  have h3 : (if 0 < (basics l).length then basics l ++ [45] else ([] : List UInt8)).length ≤ l.length + 1 := by split <;> simp <;> omega
  unfold encP
  dsimp only at h1
  omega
/-- string(l). -/
theorem conv_runes {A : Option Addr} {c : Nat} {l : List Int} {w0 : World} {m : List Res} (hA : Rd w0 m A (runes l)) (w : World) (hw : Mem w0 m w) : (convert 47 9 (.slice A l.length c)).run Tryz.prog w = .ok (.string (runesBytes l)) w := by
  unfold Rd at hA
  cases A with
  | none =>
    have : l = [] := by
      cases l with
      | nil => rfl
      | cons x r => obtain ⟨a, h, _⟩ := hA w hw 0 (.int .i32 x) rfl; cases h
    subst this
    exact run_convert_runes_nil w _ _ 21 _ _ Tryz.underlying47 Tryz.underlying21 Tryz.underlying9
  | some a =>
    have := run_convert_runes (P := Tryz.prog) w 47 9 21 a l.length c l (Nat.le_refl _) Tryz.underlying47 Tryz.underlying21 Tryz.underlying9 (fun j hj => by
      obtain ⟨a', h1, h2⟩ := hA w hw j (.int .i32 (l.getD j 0)) (by simp [hj])
      injection h1 with h1
      subst h1
      exact h2)
    rw [List.take_length] at this
    exact this
set_option maxRecDepth 100000 in
theorem one_spec (A : Option Addr) (c : Nat) (l : List Int) (hn : l.length ≤ 16000) (w0 : World) (m0 : List Res) (hA : Rd w0 m0 A (runes l)) :
    Ct (α := Nat) Tryz.prog 37 [.slice A l.length c] w0 [] m0 (fun _ => True) (oneV (oneP l)) (oneM (oneP l)) := by
  have hsz := runesBytes_size_le l
  have a1 : ∀ mm, Rd w0 mm A (runes l) → PureC Tryz.prog 57 [.slice A l.length c, .func (.func 58) #[] #[]] w0 mm (.bool (l.any (fun c => !decide (ScP c)))) := fun mm h => containsFunc_spec A c l 58 [] (fun c => !decide (ScP c)) (by omega) w0 mm h (fun c m => notValid_spec c w0 (m ++ mm))
  have a2 : ∀ mm, Rd w0 mm A (runes l) → PureC Tryz.prog 57 [.slice A l.length c, .func (.func 60) #[] #[]] w0 mm (.bool (l.any (fun c => decide (128 ≤ c)))) := fun mm h => containsFunc_spec A c l 60 [] (fun c => decide (128 ≤ c)) (by omega) w0 mm h (fun c m => above_spec c w0 (m ++ mm))
  have a3 : ∀ mm, PureC Tryz.prog 32 [.string (runesBytes l), .string aceB] w0 mm (.bool (preB (runesBytes l) aceB)) := fun mm => hasPrefix_spec _ _ w0 mm
  have a4 : ∀ mm, Rd w0 mm A (runes l) → PureC Tryz.prog 63 [.slice A l.length c] w0 mm (.bool (decide (MarkP l))) := fun mm h => marked_spec A c l w0 mm h
  have h4 : preB (runesBytes l) aceB = true → 4 ≤ (runesBytes l).size := fun h => by
    unfold preB at h
    rw [Bool.and_eq_true, decide_eq_true_eq] at h
    exact h.1
  have hSc : l.any (fun c => !decide (ScP c)) = false → Sc l := fun h x hx => by
    have h2 := List.any_eq_false.1 h x hx
    exact Classical.byContradiction fun hn => h2 (by rw [decide_eq_false hn]; rfl)
  have hv : oneP l = (if l.any (fun c => !decide (ScP c)) = true then none
      else if preB (runesBytes l) aceB = true then (if l.any (fun c => decide (128 ≤ c)) = true then none else match decP ((runesBytes l).extract 4 (runesBytes l).size) with | none => none | some d => if mayP d = true then some (runesBytes l) else none)
      else if l.any (fun c => decide (128 ≤ c)) = true then (if decide (MarkP l) = true then none else some (aceB ++ strOf (encP l))) else some (runesBytes l)) := by
    unfold oneP
    simp only [decide_eq_true_eq]
  generalize l.any (fun c => !decide (ScP c)) = b1 at a1 hSc hv
  generalize l.any (fun c => decide (128 ≤ c)) = b3 at a2 hv
  generalize preB (runesBytes l) aceB = b2 at a3 h4 hv
  generalize decide (MarkP l) = b5 at a4 hv
  refine Ct.of Tryz.func37 rfl (by kernel_rfl) rfl ?_
  (refine c_sq fun k25 h25 => c_rg <| r_as rfl rfl <| r_as rfl rfl <| r_nx h25 <| c_sq fun k27 h27 => c_sq fun k29 h29 => c_rg <| r_mv rfl rfl ?_; rotate_left)
  refine WX.pure rfl rfl (a1 _ (hA.app _)) rfl rfl ?_
  cases b1
  · (refine r_nx h29 <| c_cF rfl <| c_sk <| WE.then_n h27 <| c_sq fun k34 h34 => c_rg <| r_mv rfl rfl ?_; rotate_left)
    refine r_cm rfl (fun w hw => conv_runes (hA.app _) w hw) rfl ?_
    (refine r_as rfl rfl <| r_as rfl rfl <| r_nx h34 <| c_sq fun k36 h36 => c_rg <| r_mv rfl rfl ?_; rotate_left)
    refine WX.pure rfl rfl (a2 _ (hA.app _)) rfl rfl ?_
    (refine r_as rfl rfl <| r_nx h36 <| c_sq fun k38 h38 => c_bl <| c_sq fun k40 h40 => c_bl <| c_sq fun k42 h42 => c_bl <| c_sq fun k44 h44 => c_bl <| c_sq fun k46 h46 => c_bl <| c_sq fun k48 h48 => c_sq fun k50 h50 => c_sq fun k52 h52 => c_rg <| r_mv rfl rfl ?_; rotate_left)
    refine WX.pure rfl rfl (a3 _) rfl rfl ?_
    cases b2
    · cases b3
      · (refine r_as rfl rfl <| r_nx h52 <| c_cF rfl <| c_sk <| WE.then_n h50 <| c_sq fun k58 h58 => c_sq fun k60 h60 => c_rg <| r_mv rfl rfl <| r_no rfl rfl rfl <| r_as rfl rfl <| r_nx h60 <| c_cT rfl <| c_ex <| WE.then_x <| WE.then_x <| WE.blk_y rfl <| WE.then_x <| WE.blk_x <| WE.then_n h44 <| c_sq fun k62 h62 => c_rg <| r_mv rfl rfl <| r_as rfl rfl <| r_nx h62 <| c_ex <| WE.blk_y rfl <| WE.then_x <| WE.blk_y rfl <| WE.then_x <| WE.blk_x <| WE.then_n h38 <| c_sq fun k64 h64 => c_rg <| r_mv rfl rfl <| r_as rfl rfl <| r_as rfl rfl <| r_nx h64 <| c_rt ?_; rotate_left)
        exact WE.ret2 0 rfl rfl rfl rfl (by rw [hv]; rfl) trivial (by rw [hv]; exact Mem.drop)
      · (refine r_as rfl rfl <| r_nx h52 <| c_cF rfl <| c_sk <| WE.then_n h50 <| c_sq fun k58 h58 => c_sq fun k60 h60 => c_rg <| r_mv rfl rfl <| r_no rfl rfl rfl <| r_as rfl rfl <| r_nx h60 <| c_cF rfl <| c_sk <| WE.then_n h58 <| c_sq fun k62 h62 => c_rg <| r_mv rfl rfl ?_; rotate_left)
        refine WX.pure rfl rfl (a4 _ (hA.app _)) rfl rfl ?_
        cases b5
        · (refine r_as rfl rfl <| r_nx h62 <| c_cF rfl <| c_sk <| WE.then_n h48 <| c_ex <| WE.blk_y rfl <| WE.then_x <| WE.blk_y rfl <| WE.then_x <| WE.blk_y rfl <| WE.then_x <| WE.blk_x <| WE.then_n h40 <| c_sq fun k66 h66 => c_sq fun k68 h68 => c_rg <| r_mv rfl rfl ?_; rotate_left)
          refine WX.pure rfl rfl (encode_spec A c l (by omega) (hSc rfl) _ _ (hA.app _)) rfl rfl ?_
          (refine r_mv rfl rfl <| r_ex rfl rfl rfl <| r_ex rfl rfl rfl <| r_as rfl rfl <| r_as rfl rfl <| r_nx h68 <| c_sq fun k70 h70 => c_sq fun k72 h72 => c_rg <| r_mv rfl rfl <| r_bk (.bool false) rfl rfl (fun _ => by kernel_rfl) rfl <| r_nx h72 <| c_cF rfl <| c_sk <| WE.then_n h70 <| c_rg <| r_mv rfl rfl ?_; rotate_left)
          have hel := encP_len l
          have hms : 20 * l.length * (l.length + 1) ≤ 20 * 16000 * 16001 := Nat.mul_le_mul (by omega) (by omega)
          refine r_bi (s := .string (aceB ++ strOf (encP l))) rfl rfl (fun _ _ => rfl) (fun w _ => by
            have := run_string_add_sum (P := Tryz.prog) w aceB (strOf (encP l)) (by
              have e1 : aceB.size = 4 := rfl
              have e2 : (strOf (encP l)).size = (encP l).length := by simp [strOf, ByteArray.size]
              omega)
            simp only [binOp]
            exact this) rfl ?_
          (refine r_as rfl rfl <| r_nx h66 <| c_ex <| WE.blk_x <| WE.then_n h38 <| c_sq fun k76 h76 => c_rg <| r_mv rfl rfl <| r_as rfl rfl <| r_as rfl rfl <| r_nx h76 <| c_rt ?_; rotate_left)
          exact WE.ret2 0 rfl rfl rfl rfl (by rw [hv]; rfl) trivial (by rw [hv]; exact Mem.drop)
        · (refine r_as rfl rfl <| r_nx h62 <| c_cT rfl <| c_ex <| WE.then_x <| WE.blk_y rfl <| WE.then_x <| WE.blk_y rfl <| WE.then_x <| WE.blk_x <| WE.then_n h42 <| c_sq fun k66 h66 => c_sq fun k68 h68 => c_rg <| r_mi rfl (fun _ => by kernel_rfl) rfl ?_; rotate_left)
          refine WX.call (m1 := []) (m2 := _) rfl rfl rfl (wrap_spec sLabel [] 2 _ _) rfl rfl (fun b _ => ?_)
          (refine r_as rfl rfl <| r_as rfl rfl <| r_nx h68 <| c_rt <| WE.then_r <| WE.blk_r <| WE.then_r <| WE.blk_r <| WE.then_r ?_; rotate_left)
          exact WE.ret2 b rfl rfl rfl rfl (by rw [hv]; rfl) trivial (by rw [hv]; exact Mem.pick [0] (by decide) rfl)
    · have h4' := h4 rfl
      have hx : ((runesBytes l).extract 4 (runesBytes l).size).size = (runesBytes l).size - 4 := by rw [ByteArray.size_extract]; omega
      (refine r_as rfl rfl <| r_nx h52 <| c_cT rfl <| c_ex <| WE.then_x <| WE.then_x <| WE.blk_x <| WE.then_n h46 <| c_sq fun k59 h59 => c_rg <| r_mv rfl rfl ?_; rotate_left)
      refine r_sF Tryz.underlying9 rfl rfl (by omega) (by omega) rfl ?_
      refine WX.call (m1 := []) (m2 := []) rfl rfl rfl (decode_spec ((runesBytes l).extract 4 (runesBytes l).size) (by omega) _ _) rfl rfl (fun x _ => ?_)
      have hdp := @decP_props ((runesBytes l).extract 4 (runesBytes l).size)
      generalize decP ((runesBytes l).extract 4 (runesBytes l).size) = r at hdp hv ⊢
      cases r with
      | none =>
        simp only [decV, decM, ecv]
        cases b3
        · (refine r_mv rfl rfl <| r_ex rfl rfl rfl <| r_ex rfl rfl rfl <| r_as rfl rfl <| r_as rfl rfl <| r_nx h59 <| c_sq fun k66 h66 => c_rg <| r_mv rfl rfl <| r_mv rfl rfl <| r_mv rfl rfl <| r_bk (.bool true) rfl rfl (fun _ => by kernel_rfl) rfl <| r_pF rfl rfl rfl <| r_mv rfl rfl <| r_sk rfl rfl <| r_sk rfl rfl <| r_sk rfl rfl <| r_pT rfl rfl rfl <| r_nx h66 <| c_cT rfl <| c_sq fun k68 h68 => c_rg <| r_mi rfl (fun _ => by kernel_rfl) rfl ?_; rotate_left)
          refine WX.call (m1 := []) (m2 := _) rfl rfl rfl (wrap_spec sLabel [] 2 _ _) rfl rfl (fun b _ => ?_)
          (refine r_as rfl rfl <| r_as rfl rfl <| r_nx h68 <| c_rt <| WE.blk_r <| WE.then_r <| WE.blk_r <| WE.then_r <| WE.blk_r <| WE.then_r <| WE.blk_r <| WE.then_r ?_; rotate_left)
          exact WE.ret2 b rfl rfl rfl rfl (by rw [hv]; rfl) trivial (by rw [hv]; exact Mem.pick [0] (by decide) rfl)
        · (refine r_mv rfl rfl <| r_ex rfl rfl rfl <| r_ex rfl rfl rfl <| r_as rfl rfl <| r_as rfl rfl <| r_nx h59 <| c_sq fun k66 h66 => c_rg <| r_mv rfl rfl <| r_mv rfl rfl <| r_sk rfl rfl <| r_sk rfl rfl <| r_pT rfl rfl rfl <| r_mv rfl rfl <| r_sk rfl rfl <| r_sk rfl rfl <| r_sk rfl rfl <| r_pT rfl rfl rfl <| r_nx h66 <| c_cT rfl <| c_sq fun k68 h68 => c_rg <| r_mi rfl (fun _ => by kernel_rfl) rfl ?_; rotate_left)
          refine WX.call (m1 := []) (m2 := _) rfl rfl rfl (wrap_spec sLabel [] 2 _ _) rfl rfl (fun b _ => ?_)
          (refine r_as rfl rfl <| r_as rfl rfl <| r_nx h68 <| c_rt <| WE.blk_r <| WE.then_r <| WE.blk_r <| WE.then_r <| WE.blk_r <| WE.then_r <| WE.blk_r <| WE.then_r ?_; rotate_left)
          exact WE.ret2 b rfl rfl rfl rfl (by rw [hv]; rfl) trivial (by rw [hv]; exact Mem.pick [0] (by decide) rfl)
      | some d =>
        obtain ⟨g1, g2⟩ := hdp rfl
        simp only [decV, decM]
        dsimp only at hv
        cases b3
        · (refine r_mv rfl rfl <| r_ex rfl rfl rfl <| r_ex rfl rfl rfl <| r_as rfl rfl <| r_as rfl rfl <| r_nx h59 <| c_sq fun k73 h73 => c_rg <| r_mv rfl rfl <| r_mv rfl rfl <| r_mv rfl rfl <| r_bk (.bool false) rfl rfl (fun _ => by kernel_rfl) rfl <| r_pF rfl rfl rfl <| r_mv rfl rfl <| r_mv rfl rfl ?_; rotate_left)
          have hm : ∀ mm, Rd w0 mm x.2.1 (runes d) → PureC Tryz.prog 62 [SlR x.2 d] w0 mm (.bool (mayP d)) := fun mm h => may_spec x.2.1 x.2.2 d (by omega) (fun n hn => by have := g1 n hn; omega) w0 mm h
          generalize mayP d = b4 at hm hv
          refine WX.pure rfl rfl (hm _ (Rd.own 0 rfl)) rfl rfl ?_
          cases b4
          · (refine r_no rfl rfl rfl <| r_pF rfl rfl rfl <| r_nx h73 <| c_cT rfl <| c_sq fun k77 h77 => c_rg <| r_mi rfl (fun _ => by kernel_rfl) rfl ?_; rotate_left)
            refine WX.call (m1 := []) (m2 := _) rfl rfl rfl (wrap_spec sLabel [] 2 _ _) rfl rfl (fun b _ => ?_)
            (refine r_as rfl rfl <| r_as rfl rfl <| r_nx h77 <| c_rt <| WE.blk_r <| WE.then_r <| WE.blk_r <| WE.then_r <| WE.blk_r <| WE.then_r <| WE.blk_r <| WE.then_r ?_; rotate_left)
            exact WE.ret2 b rfl rfl rfl rfl (by rw [hv]; rfl) trivial (by rw [hv]; exact Mem.pick [0] (by decide) rfl)
          · (refine r_no rfl rfl rfl <| r_pF rfl rfl rfl <| r_nx h73 <| c_cF rfl <| c_sk <| WE.blk_n <| WE.then_n h44 <| c_sq fun k77 h77 => c_rg <| r_mv rfl rfl <| r_as rfl rfl <| r_nx h77 <| c_ex <| WE.blk_y rfl <| WE.then_x <| WE.blk_y rfl <| WE.then_x <| WE.blk_x <| WE.then_n h38 <| c_sq fun k79 h79 => c_rg <| r_mv rfl rfl <| r_as rfl rfl <| r_as rfl rfl <| r_nx h79 <| c_rt ?_; rotate_left)
            exact WE.ret2 0 rfl rfl rfl rfl (by rw [hv]; rfl) trivial (by rw [hv]; exact Mem.drop)
        · (refine r_mv rfl rfl <| r_ex rfl rfl rfl <| r_ex rfl rfl rfl <| r_as rfl rfl <| r_as rfl rfl <| r_nx h59 <| c_sq fun k73 h73 => c_rg <| r_mv rfl rfl <| r_mv rfl rfl <| r_sk rfl rfl <| r_sk rfl rfl <| r_pT rfl rfl rfl <| r_mv rfl rfl <| r_sk rfl rfl <| r_sk rfl rfl <| r_sk rfl rfl <| r_pT rfl rfl rfl <| r_nx h73 <| c_cT rfl <| c_sq fun k75 h75 => c_rg <| r_mi rfl (fun _ => by kernel_rfl) rfl ?_; rotate_left)
          refine WX.call (m1 := []) (m2 := _) rfl rfl rfl (wrap_spec sLabel [] 2 _ _) rfl rfl (fun b _ => ?_)
          (refine r_as rfl rfl <| r_as rfl rfl <| r_nx h75 <| c_rt <| WE.blk_r <| WE.then_r <| WE.blk_r <| WE.then_r <| WE.blk_r <| WE.then_r <| WE.blk_r <| WE.then_r ?_; rotate_left)
          exact WE.ret2 b rfl rfl rfl rfl (by rw [hv]; rfl) trivial (by rw [hv]; exact Mem.pick [0] (by decide) rfl)
  · (refine r_nx h29 <| c_cT rfl <| c_sq fun k34 h34 => c_rg <| r_mi rfl (fun _ => by kernel_rfl) rfl ?_; rotate_left)
    refine WX.call (m1 := []) (m2 := _) rfl rfl rfl (wrap_spec sLabel [] 2 _ _) rfl rfl (fun b _ => ?_)
    (refine r_as rfl rfl <| r_as rfl rfl <| r_nx h34 <| c_rt <| WE.then_r ?_; rotate_left)
    exact WE.ret2 b rfl rfl rfl rfl (by rw [hv]; rfl) trivial (by rw [hv]; exact Mem.pick [0] (by decide) rfl)
end Go.Proofs.YtkggplnigjlegaaGreatDoor

/- Regions that draw their order, where operations are taken in an order of the prover's. -/
set_option linter.unusedVariables false
namespace Go.Gp
open Go.RowKit
/-- Those of a list have come up. -/
def fl (n : Nat) (L : List Nat) : Array Bool := ((List.range n).map fun i => L.elem i).toArray
def WG (mk : List Res) (C : Cx) (Q : Po) (ops : Array Oper) (L : List Nat) (l : List (Nat × Value)) (m : List Res) : Prop :=
  ∀ a w, C.St l m a w → wpAnyH C.P .any ops (NP Q) (fun w => Mem C.w0 (mk ++ C.m0) w) (ops.size - L.length) (fl ops.size L) a w

/-- Number k may be taken first. -/
def takeBL (ops : Array Oper) (L : List Nat) (k : Nat) : Bool :=
  Region.noSelect ops && (Nat.blt k ops.size && Nat.blt L.length ops.size) && Region.free .any ops (fl ops.size L) k && (Region.ready .any ops (fl ops.size L)).contains k && ((fl ops.size L).setIfInBounds k true == fl ops.size (k :: L))
/-- Number k alone may come up. -/
def soleBL (ops : Array Oper) (L : List Nat) (k : Nat) : Bool :=
  (Nat.blt k ops.size && Nat.blt L.length ops.size) && (Region.ready .any ops (fl ops.size L) == [k]) && ((fl ops.size L).setIfInBounds k true == fl ops.size (k :: L))

section
variable {mk : List Res} {C : Cx} {Q : Po} {l : List (Nat × Value)} {m : List Res} {ops : Array Oper} {L : List Nat} {k : Nat}

theorem WC.heldL {i : Nat} {ops : List Oper} (mk : List Res) (hr : C.r = none) (hm : C.P.follows .mixedOrders = true) (h : WG mk C Q ops.toArray [] l m) : WC C Q (.region i ops.toArray true) l m := by
  unfold WC
  intro a w hs
  have e : FW C.r = Fence.wide := by rw [hr]; rfl
  rw [e]
  refine wpIn_wide.2 (Code.wp_mono NP.imp (wp_region_held (S := fun w => Mem C.w0 (mk ++ C.m0) w) hm ?_))
  have h' := h a { w with drawn := w.drawn + 1 } ⟨hs.1, hs.2.drew⟩
  have e2 : fl ops.toArray.size [] = Array.replicate ops.toArray.size false := by
    apply Array.ext
    · simp [fl]
    · intro j h1 h2
      simp [fl]
  rw [show ops.toArray.size - ([] : List Nat).length = ops.toArray.size from rfl, e2] at h'
  exact h'

theorem WG.take {o : Oper} {v : Value} {d : Nat} (hi : ops[k]? = some o) (hB : takeBL ops L k = true) (hv : Qv C l mk o v) (hd : o.dst = some d) (hdn : Nat.blt d C.n = true) (hg : wants ops l o.guard = some true)
    (hS : ∀ w, Mem C.w0 (m ++ C.m0) w → Mem C.w0 (mk ++ C.m0) w) (h : WG mk C Q ops (k :: L) ((d, v) :: l) m) : WG mk C Q ops L l m := by
  intro a w hs
  simp only [takeBL, Bool.and_eq_true, beq_iff_eq] at hB
  obtain ⟨⟨⟨⟨h1, h2⟩, h3⟩, h4⟩, h5⟩ := hB
  have hlt : k < ops.size ∧ L.length < ops.size := by simpa using h2
  rw [show ops.size - L.length = ops.size - (k :: L).length + 1 by rw [List.length_cons]; omega]
  refine wpAnyH_take hi h1 h3 h4 (fun _ _ _ h => h) (v := v) (.inl ⟨wanted_of hs.1 hg, fun w' hw' => hv a.eval (ev_of hs.1) w' hw'⟩) (hS w hs.2) ?_
  rw [h5, hd]
  exact h _ w ⟨hs.1.put d v hdn, hs.2⟩
theorem WG.pass {o : Oper} {d : Nat} (hi : ops[k]? = some o) (hB : takeBL ops L k = true) (hd : o.dst = some d) (hdn : Nat.blt d C.n = true) (hg : wants ops l o.guard = some false)
    (hS : ∀ w, Mem C.w0 (m ++ C.m0) w → Mem C.w0 (mk ++ C.m0) w) (h : WG mk C Q ops (k :: L) ((d, undef) :: l) m) : WG mk C Q ops L l m := by
  intro a w hs
  simp only [takeBL, Bool.and_eq_true, beq_iff_eq] at hB
  obtain ⟨⟨⟨⟨h1, h2⟩, h3⟩, h4⟩, h5⟩ := hB
  have hlt : k < ops.size ∧ L.length < ops.size := by simpa using h2
  rw [show ops.size - L.length = ops.size - (k :: L).length + 1 by rw [List.length_cons]; omega]
  refine wpAnyH_take hi h1 h3 h4 (fun _ _ _ h => h) (v := undef) (.inr ⟨wanted_of hs.1 hg, rfl⟩) (hS w hs.2) ?_
  rw [h5, hd]
  exact h _ w ⟨hs.1.put d undef hdn, hs.2⟩

theorem WG.sole {o : Oper} (hi : ops[k]? = some o) (hB : soleBL ops L k = true) (hg : wants ops l o.guard = some true)
    (h : ∀ a w, C.St l m a w → o.wp C.P a w (fun a' w' => Mem C.w0 (mk ++ C.m0) w' ∧ wpAnyH C.P .any ops (NP Q) (fun w => Mem C.w0 (mk ++ C.m0) w) (ops.size - (k :: L).length) (fl ops.size (k :: L)) a' w') (NP Q)) : WG mk C Q ops L l m := by
  intro a w hs
  simp only [soleBL, Bool.and_eq_true, beq_iff_eq] at hB
  obtain ⟨⟨h2, h3⟩, h5⟩ := hB
  have hlt : k < ops.size ∧ L.length < ops.size := by simpa using h2
  rw [show ops.size - L.length = ops.size - (k :: L).length + 1 by rw [List.length_cons]; omega]
  refine wpAnyH_all h3 (by simp) (fun i hi' => ?_)
  rw [List.mem_singleton] at hi'
  subst hi'
  rw [h5]
  unfold wpOp
  simp only [hi, wanted_of hs.1 hg, if_true]
  exact .inl (h a w hs)
theorem WG.ev {α : Type} {o : Oper} {φ : α → Prop} {v : α → Value} {m' : α → List Res} {d : Nat} (hi : ops[k]? = some o) (hB : soleBL ops L k = true) (hv : Ev C l m o φ v m') (hd : o.dst = some d) (hdn : Nat.blt d C.n = true) (hg : wants ops l o.guard = some true)
    (hS : ∀ x w, Mem C.w0 (m' x ++ C.m0) w → Mem C.w0 (mk ++ C.m0) w) (h : ∀ x, φ x → WG mk C Q ops (k :: L) ((d, v x) :: l) (m' x)) : WG mk C Q ops L l m :=
  WG.sole hi hB hg fun a w hs => by
    obtain ⟨x, w', hx, hr, hm⟩ := hv a.eval (ev_of hs.1) w hs.2
    unfold Oper.wp
    rw [hr, Oper.upon_value, hd]
    exact ⟨hS x _ hm, h x hx _ _ ⟨hs.1.put d _ hdn, hm⟩⟩
theorem WG.st {o : Oper} {m' : List Res} (hi : ops[k]? = some o) (hB : soleBL ops L k = true) (hv : Sv C l m o m') (hd : o.dst = none) (hg : wants ops l o.guard = some true)
    (hS : ∀ w, Mem C.w0 (m' ++ C.m0) w → Mem C.w0 (mk ++ C.m0) w) (h : WG mk C Q ops (k :: L) l m') : WG mk C Q ops L l m :=
  WG.sole hi hB hg fun a w hs => by
    obtain ⟨w', hr, hm⟩ := hv a.eval (ev_of hs.1) w hs.2
    unfold Oper.wp
    rw [hr, Oper.upon_skip, hd]
    exact ⟨hS _ hm, h _ _ ⟨hs.1, hm⟩⟩
theorem WG.qv {o : Oper} {v : Value} {d : Nat} (hi : ops[k]? = some o) (hB : soleBL ops L k = true) (hv : Qv C l m o v) (hd : o.dst = some d) (hdn : Nat.blt d C.n = true) (hg : wants ops l o.guard = some true)
    (hS : ∀ w, Mem C.w0 (m ++ C.m0) w → Mem C.w0 (mk ++ C.m0) w) (h : WG mk C Q ops (k :: L) ((d, v) :: l) m) : WG mk C Q ops L l m :=
  WG.ev (α := Unit) (φ := fun _ => True) (v := fun _ => v) (m' := fun _ => m) hi hB (fun ev hev w hw => ⟨(), w, trivial, hv ev hev w hw, hw⟩) hd hdn hg (fun _ => hS) (fun _ _ => h)
theorem WG.call {α : Type} {φ : α → Prop} {val : α → Value} {M : α → List Res} {d : Nat} {ty : TypeId} {pos : String} {af : Array Edge} {g : Option (Nat × Bool)} {fo : Operand} {xs : List Operand} {ts : Array TypeId} {f : FuncId} {vs cs : List Value} {m1 m2 : List Res}
    (hi : ops[k]? = some ⟨some d, .call { callee := .value fo, args := xs.toArray, argTypes := ts }, ty, pos, af, g⟩) (hB : soleBL ops L k = true)
    (hfo : opv l fo = some (.func (.func f) #[] cs.toArray)) (hxs : opvs l xs = some vs) (hm : m = m1 ++ m2) (hsp : Ct C.P f (vs ++ cs) C.w0 m1 (m2 ++ C.m0) φ val M) (hdn : Nat.blt d C.n = true) (hg : wants ops l g = some true)
    (hS : ∀ x w, Mem C.w0 (M x ++ m2 ++ C.m0) w → Mem C.w0 (mk ++ C.m0) w) (h : ∀ x, φ x → WG mk C Q ops (k :: L) ((d, val x) :: l) (M x ++ m2)) : WG mk C Q ops L l m :=
  WG.sole hi hB hg fun a w hs => by
    unfold Ct at hsp
    have hrun := run_call hsp.1 (ev := a.eval) (d := some d) (ty := ty) (pos := pos) (af := af) (g := g) (ts := ts) (ev_of hs.1 _ _ hfo) (opvs_map (ev_of hs.1) xs vs hxs) w
    unfold Oper.wp
    rw [hrun, Oper.upon_enter]
    refine (hsp.2 w (by rw [← List.append_assoc, ← hm]; exact hs.2)).mono fun e w' hh => ?_
    unfold sp at hh
    obtain ⟨x, hx, rfl, hmem⟩ := hh
    have hmem' : Mem C.w0 (M x ++ m2 ++ C.m0) w' := by rw [List.append_assoc]; exact hmem
    exact ⟨hS x _ hmem', h x hx _ _ ⟨hs.1.put d _ hdn, hmem'⟩⟩
theorem WG.nil (hr : Region.ready .any ops (fl ops.size L) = []) (h : WE C Q .normal l m) : WG mk C Q ops L l m := by
  intro a w hs
  unfold WE at h
  exact wpAnyH_done (Q := NP Q) hr (show NP Q .normal a w from h a w hs) _
end
end Go.Gp

/- (*strings.Builder).grow of a builder that holds nothing: the walk. -/
namespace Go.Proofs.YtkggplnigjlegaaGreatDoor
open Go.RowKit Go.Gp

theorem x_noZero (n : Nat) (hn : n ≤ 1000000000000) (w : World) : ∃ cs : Array Value, (callFunc 108 #[.int .i64 n]).run Tryz.prog w = .ok (.value (.slice (some ⟨w.heap.size, 0, none⟩) n cs.size)) (w.drew.drew.alloc (.cells cs 5)) ∧ n ≤ cs.size ∧ cs.size ≤ maxLen := by
  obtain ⟨cs, h1, h2, h3⟩ := Go.Lib.run_makeNoZero (P := Tryz.prog) w #[3] 75 5 Tryz.underlying75 n (by omega)
  refine ⟨cs, ?_, h2, h3 (by unfold maxLen; omega)⟩
  rw [run_callFunc_extern (e := Extern.BytealgMakeNoZero.makeNoZero #[3] #[75]) Tryz.func108 (by kernel_rfl) (by kernel_rfl) (by kernel_rfl) (by kernel_rfl), h1]
  rfl
theorem grown_dda (w : World) (o : Obj) : w.grownBy (w.drew.drew.alloc o) none :=
  let q := World.grownBy_alloc w.drew.drew o none
  ⟨q.os, q.tape, q.output, q.size, q.block⟩
theorem elemB : Tryz.prog.underlying 75 = some (.slice (Tryz.prog.elem 75)) := by kernel_rfl
theorem sizeB (w : World) : (sizeOf (Tryz.prog.elem 75)).run Tryz.prog w = .ok 1 w := by kernel_rfl
set_option maxRecDepth 100000 in
theorem grow_spec (u : Bool) (g : Nat) (n : Nat) (hn : n ≤ 1000000000000) (w0 : World) (m0 : List Res) :
    Ct (α := Option Addr × Nat) Tryz.prog 77 [.pointer (some ⟨g, 0, none⟩), .int .i64 n] w0 [BB u g (none, 0) []] m0 (fun _ => True) (fun _ => .tuple #[]) (fun p => [BB u g p [], OwnB p []]) := by
  refine Ct.of Tryz.func77 rfl (by kernel_rfl) rfl ?_
  (refine c_sq fun k7 h7 => ?_)
  refine WC.heldL [BB u g (none, 0) []] rfl (by kernel_rfl) ?_
  refine WG.take (k := 0) (d := 5) rfl (by kernel_rfl) (Qv.move rfl) rfl rfl rfl Mem.keep ?_
  refine WG.take (k := 1) (d := 6) rfl (by kernel_rfl) (Qv.nilCheck rfl) rfl rfl rfl Mem.keep ?_
  refine WG.take (k := 2) (d := 7) rfl (by kernel_rfl) (Qv.fieldAddr (b := ⟨g, 1, none⟩) rfl (fun _ => by kernel_rfl)) rfl rfl rfl Mem.keep ?_
  refine WG.take (k := 3) (d := 8) rfl (by kernel_rfl) (Qv.load_blk (i := 0) Tryz.underlying75 rfl rfl rfl rfl) rfl rfl rfl Mem.keep ?_
  refine WG.take (k := 4) (d := 9) rfl (by kernel_rfl) (Qv.cap Tryz.underlying75 rfl) rfl rfl rfl Mem.keep ?_
  refine WG.take (k := 5) (d := 10) rfl (by kernel_rfl) (Qv.mul (r := 0) rfl rfl (by decide)) rfl rfl rfl Mem.keep ?_
  refine WG.take (k := 6) (d := 11) rfl (by kernel_rfl) (Qv.move rfl) rfl rfl rfl Mem.keep ?_
  refine WG.take (k := 7) (d := 12) rfl (by kernel_rfl) (Qv.add (r := (n : Int)) rfl rfl (by rw [Int.zero_add]; exact w64 (by omega))) rfl rfl rfl Mem.keep ?_
  refine WG.take (k := 9) (d := 14) rfl (by kernel_rfl) (Qv.move rfl) rfl rfl rfl Mem.keep ?_
  refine WG.take (k := 10) (d := 15) rfl (by kernel_rfl) (Qv.nilCheck rfl) rfl rfl rfl Mem.keep ?_
  refine WG.take (k := 11) (d := 16) rfl (by kernel_rfl) (Qv.fieldAddr (b := ⟨g, 1, none⟩) rfl (fun _ => by kernel_rfl)) rfl rfl rfl Mem.keep ?_
  refine WG.take (k := 12) (d := 17) rfl (by kernel_rfl) (Qv.load_blk (i := 0) Tryz.underlying75 rfl rfl rfl rfl) rfl rfl rfl Mem.keep ?_
  refine WG.take (k := 13) (d := 18) rfl (by kernel_rfl) (Qv.len_slice Tryz.underlying75 rfl) rfl rfl rfl Mem.keep ?_
  refine WG.ev (k := 8) (d := 13) (α := Nat × Nat) (φ := fun _ => True) (v := fun p => .slice (some ⟨p.1, 0, none⟩) n p.2) (m' := fun p => [BB u g (none, 0) [], OwnB (some ⟨p.1, 0, none⟩, p.2) []]) rfl (by kernel_rfl) (fun ev hev w hw => by
    obtain ⟨cs, h1, h2, h3⟩ := x_noZero n hn w
    refine ⟨(w.heap.size, cs.size), w.drew.drew.alloc (.cells cs 5), trivial, exec_call (xs := [.tmp 12]) (vs := [.int .i64 n]) rfl rfl hev h1, ?_⟩
    have hq : Mem w0 (OwnB (some ⟨w.heap.size, 0, none⟩, cs.size) [] :: ([BB u g (none, 0) []] ++ m0)) (w.drew.drew.alloc (.cells cs 5)) := by
      refine Mem.add hw (grown_dda w _) ?_ (fun k hk => by simp [Res.block] at hk; omega)
      exact ⟨rfl, .inr ⟨w.heap.size, cs.size, cs, rfl, hw.bnd, heap_alloc_new w.drew.drew _, Nat.zero_le _, h3, by simp, by simp⟩⟩
    exact Mem.pick (m := [OwnB (some ⟨w.heap.size, 0, none⟩, cs.size) [], BB u g (none, 0) []]) [1, 0] (by decide) rfl _ hq) rfl rfl rfl (fun p => Mem.pick [0] (by decide) rfl) (fun p _ => ?_)
  refine WG.qv (k := 14) (d := 19) rfl (by kernel_rfl) (Qv.st0 0 elemB sizeB rfl rfl rfl (Nat.zero_le _)) rfl rfl rfl (Mem.pick [0] (by decide) rfl) ?_
  refine WG.qv (k := 15) (d := 4) rfl (by kernel_rfl) (Qv.assign rfl) rfl rfl rfl (Mem.pick [0] (by decide) rfl) ?_
  refine WG.nil (by kernel_rfl) ?_
  (refine WE.then_n h7 <| c_sq fun k11 h11 => c_rg <| r_mv rfl rfl <| r_mv rfl rfl <| r_nc rfl rfl <| r_fa 1 rfl (fun _ => by kernel_rfl) rfl <| r_lb 0 Tryz.underlying75 rfl rfl rfl rfl rfl ?_; rotate_left)
  refine WX.q (d := 25) (v := .int .i64 0) (fun ev hev w _ => by
    have h1 := hev (.tmp 20) (.slice (some ⟨p.1, 0, none⟩) 0 p.2) rfl
    have h2 := hev (.tmp 24) (.slice none 0 0) rfl
    have hrun := run_copy_none (P := Tryz.prog) w 75 75 3 5 (some ⟨p.1, 0, none⟩) none 0 p.2 0 0 Tryz.underlying75 (by kernel_rfl) rfl
    simp only [goInt] at hrun
    simp [execOp, resolve, invoke, builtin, h1, h2, hrun]) rfl rfl rfl rfl ?_
  (refine r_nx h11 <| c_rg <| r_mv rfl rfl <| r_mv rfl rfl <| r_nc rfl rfl <| r_fa 1 rfl (fun _ => by kernel_rfl) rfl <| r_st 0 (by kernel_rfl) rfl rfl rfl rfl rfl rfl rfl <| r_nl ?_; rotate_left)
  exact WE.end0 (some ⟨p.1, 0, none⟩, p.2) rfl rfl rfl trivial Mem.keep
end Go.Proofs.YtkggplnigjlegaaGreatDoor

/- (*strings.Builder).Grow, strings.Join: the walks. -/
namespace Go.Proofs.YtkggplnigjlegaaGreatDoor
open Go.RowKit Go.Gp

set_option maxRecDepth 100000 in
theorem bGrow_spec (u : Bool) (g : Nat) (n : Nat) (hn : n ≤ 1000000000000) (w0 : World) (m0 : List Res) :
    Ct (α := Option Addr × Nat) Tryz.prog 44 [.pointer (some ⟨g, 0, none⟩), .int .i64 n] w0 [BB u g (none, 0) []] m0 (fun _ => True) (fun _ => .tuple #[]) (fun p => [BB true g p [], OwnB p []]) := by
  refine Ct.of Tryz.func44 rfl (by kernel_rfl) rfl ?_
  (refine c_sq fun k7 h7 => c_rg <| r_mv rfl rfl ?_; rotate_left)
  refine WX.call (m1 := [BB u g (none, 0) []]) (m2 := []) rfl rfl rfl (copyCheck_spec u g _ _ _) rfl rfl (fun _ _ => ?_)
  (refine r_nx h7 <| c_sq fun k11 h11 => c_sq fun k13 h13 => c_rg <| r_mv rfl rfl <| r_ltF rfl rfl rfl (by omega) <| r_nx h13 <| c_cF rfl <| c_sk <| WE.then_n h11 <| c_sq fun k15 h15 => c_dr rfl (by kernel_rfl) (by kernel_rfl) <| r_mv rfl rfl <| r_nc rfl rfl <| r_fa 1 rfl (fun _ => by kernel_rfl) rfl <| r_lb 0 Tryz.underlying75 rfl rfl rfl rfl rfl ?_; rotate_left)
  refine r_cp Tryz.underlying75 rfl rfl ?_
  by_cases h0 : n = 0
  · (refine r_mv rfl rfl <| r_nc rfl rfl <| r_fa 1 rfl (fun _ => by kernel_rfl) rfl <| r_lb 0 Tryz.underlying75 rfl rfl rfl rfl rfl <| r_ls Tryz.underlying75 rfl rfl ?_; rotate_left)
    refine r_su (r := 0) rfl rfl rfl rfl ?_
    (refine r_mv rfl rfl <| r_ltF rfl rfl rfl (by omega) <| r_nx h15 <| c_cF rfl <| c_sk ?_; rotate_left)
    exact WE.end0 (none, 0) rfl rfl rfl trivial (fun w hw => Mem.pick (m' := [BB true g (none, 0) [], OwnB (none, 0) []]) [1, 0] (by decide) rfl w (Mem.addNil _ _ w hw))
  · (refine r_mv rfl rfl <| r_nc rfl rfl <| r_fa 1 rfl (fun _ => by kernel_rfl) rfl <| r_lb 0 Tryz.underlying75 rfl rfl rfl rfl rfl <| r_ls Tryz.underlying75 rfl rfl ?_; rotate_left)
    refine r_su (r := 0) rfl rfl rfl rfl ?_
    (refine r_mv rfl rfl <| r_ltT rfl rfl rfl (by omega) <| r_nx h15 <| c_cT rfl <| c_rg <| r_mv rfl rfl <| r_mv rfl rfl ?_; rotate_left)
    refine WX.call (m1 := [BB true g (none, 0) []]) (m2 := []) rfl rfl rfl (grow_spec true g n hn _ _) rfl rfl (fun p _ => ?_)
    (refine r_nl ?_; rotate_left)
    exact WE.end0 p rfl rfl rfl trivial Mem.keep
abbrev strsV (l : List ByteArray) : List Value := l.map (.string ·)
def catB (l : List ByteArray) : List UInt8 := l.flatMap fun s => s.data.toList
def tailJ (sep : ByteArray) (l : List ByteArray) : List UInt8 := l.flatMap fun s => sep.data.toList ++ s.data.toList
/-- The texts, with another between. -/
def joinP (sep : ByteArray) : List ByteArray → ByteArray
  | [] => ⟨#[]⟩
  | [s] => s
  | s :: r => strOf' (s.data.toList ++ tailJ sep r)
where strOf' (l : List UInt8) : ByteArray := ⟨l.toArray⟩
end Go.Proofs.YtkggplnigjlegaaGreatDoor

/- strings.Join with a dot: the walk. -/
namespace Go.Proofs.YtkggplnigjlegaaGreatDoor
open Go.RowKit Go.Gp

def dotB : ByteArray := ⟨#[46]⟩
def sumN (l : List ByteArray) : Nat := (l.map ByteArray.size).sum
theorem sumN_snoc (l : List ByteArray) (s : ByteArray) : sumN (l ++ [s]) = sumN l + s.size := by simp [sumN]
theorem takeS {l : List ByteArray} {i : Nat} (h : i < l.length) : l.take (i + 1) = l.take i ++ [l.getD i ⟨#[]⟩] := by
  rw [List.take_add_one, List.getElem?_eq_getElem h]
  simp [h]
theorem sumN_le (l : List ByteArray) (h : ∀ s ∈ l, s.size ≤ 500000) : sumN l ≤ 500000 * l.length := by
  induction l with
  | nil => simp [sumN]
  | cons s l ih =>
    have h1 := h s (by simp)
    have h2 := ih (fun t ht => h t (by simp [ht]))
    have h3 : sumN (s :: l) = s.size + sumN l := by simp [sumN]
    rw [h3, List.length_cons]
    omega
theorem Rd.drop1 {w0 : World} {m : List Res} {A : Option Addr} {l : List ByteArray} (h : Rd w0 m A (strsV l)) : Rd w0 m (A.map (·.add 1)) (strsV (l.drop 1)) := by
  unfold Rd at h ⊢
  intro w hw j v hj
  have h2 : (strsV l)[1 + j]? = some v := by
    rw [strsV, List.map_drop, List.getElem?_drop] at hj
    exact hj
  obtain ⟨a, ha, hc⟩ := h w hw (1 + j) v h2
  exact ⟨a.add 1, by rw [ha]; rfl, by rw [Addr.add_add]; exact hc⟩
theorem elemS : Tryz.prog.underlying 23 = some (.slice (Tryz.prog.elem 23)) := by kernel_rfl
theorem sizeS (w : World) : (sizeOf (Tryz.prog.elem 23)).run Tryz.prog w = .ok 1 w := by kernel_rfl
theorem tailJ_snoc (l : List ByteArray) (s : ByteArray) : tailJ dotB (l ++ [s]) = tailJ dotB l ++ dotB.data.toList ++ s.data.toList := by simp [tailJ]
theorem tailJ_len (l : List ByteArray) : (tailJ dotB l).length = l.length + sumN l := by
  induction l with
  | nil => rfl
  | cons s l ih =>
    have h3 : sumN (s :: l) = s.size + sumN l := by simp [sumN]
    have h4 : tailJ dotB (s :: l) = dotB.data.toList ++ s.data.toList ++ tailJ dotB l := by simp [tailJ]
    have h5 : s.data.toList.length = s.size := by simp
    have h6 : dotB.data.toList.length = 1 := rfl
    rw [h3, h4, List.length_append, List.length_append, ih, List.length_cons, h5, h6]
    omega
set_option maxRecDepth 100000 in
theorem join_spec (A : Option Addr) (c : Nat) (l : List ByteArray) (hn : l.length ≤ 1000000) (hs : ∀ s ∈ l, s.size ≤ 500000) (hc : l.length ≤ c) (w0 : World) (m0 : List Res) (hA : Rd w0 m0 A (strsV l)) :
    PureC Tryz.prog 24 [.slice A l.length c, .string dotB] w0 m0 (.string (joinP dotB l)) := by
  refine Ct.of Tryz.func24 rfl (by kernel_rfl) rfl ?_
  by_cases h0 : l.length = 0
  · (refine c_sq fun k11 h11 => c_rg <| r_as rfl rfl <| r_nx h11 <| c_sq fun k13 h13 => c_sq fun k15 h15 => c_rg <| r_mv rfl rfl <| r_ls Tryz.underlying23 rfl rfl <| r_nx h15 <| c_bl <| c_sq fun k17 h17 => c_rg <| r_eqT rfl rfl rfl (by omega) <| r_as rfl rfl <| r_nx h17 <| c_cT rfl <| c_sq fun k19 h19 => c_rg <| r_as rfl rfl <| r_nx h19 <| c_rt <| WE.blk_r <| WE.then_r ?_; rotate_left)
    have e0 : l = [] := List.eq_nil_of_length_eq_zero h0
    exact WE.ret1 () rfl rfl (by rw [e0]; rfl) trivial Mem.drop
  · by_cases h1 : l.length = 1
    · (refine c_sq fun k12 h12 => c_rg <| r_as rfl rfl <| r_nx h12 <| c_sq fun k14 h14 => c_sq fun k16 h16 => c_rg <| r_mv rfl rfl <| r_ls Tryz.underlying23 rfl rfl <| r_nx h16 <| c_bl <| c_sq fun k18 h18 => c_rg <| r_eqF rfl rfl rfl (by omega) <| r_as rfl rfl <| r_nx h18 <| c_cF rfl <| c_sq fun k20 h20 => c_rg <| r_eqT rfl rfl rfl (by omega) <| r_as rfl rfl <| r_nx h20 <| c_cT rfl <| c_sq fun k22 h22 => c_rg <| r_mv rfl rfl <| r_im (hA.app _) Tryz.underlying23 (by kernel_rfl) rfl rfl rfl rfl (by omega) (by omega) <| r_lt (0) (hA.app _) Tryz.underlying9 rfl rfl rfl (by omega) <| r_as rfl rfl <| r_nx h22 <| c_rt <| WE.blk_r <| WE.then_r ?_; rotate_left)
      obtain ⟨s0, e0⟩ := List.length_eq_one_iff.1 h1
      exact WE.ret1 () rfl rfl (by rw [e0]; rfl) trivial Mem.drop
    · have hd : (dotB.size : Int) = 1 := rfl
      have hdiv : 1000000 ≤ 9223372036854775807 / ((l.length : Int) - 1) := Int.le_ediv_of_mul_le (by omega) (by omega)
      have hmul : (dotB.size : Int) * ((l.length : Int) - 1) = (l.length : Int) - 1 := by rw [hd, Int.one_mul]
      (refine c_sq fun k15 h15 => c_rg <| r_as rfl rfl <| r_nx h15 <| c_sq fun k17 h17 => c_sq fun k19 h19 => c_rg <| r_mv rfl rfl <| r_ls Tryz.underlying23 rfl rfl <| r_nx h19 <| c_bl <| c_sq fun k21 h21 => c_rg <| r_eqF rfl rfl rfl (by omega) <| r_as rfl rfl <| r_nx h21 <| c_cF rfl <| c_sq fun k23 h23 => c_rg <| r_eqF rfl rfl rfl (by omega) <| r_as rfl rfl <| r_nx h23 <| c_cF rfl <| c_sk <| WE.blk_n <| WE.then_n h17 <| c_sq fun k25 h25 => c_rg <| r_as rfl rfl <| r_nx h25 <| c_sq fun k27 h27 => c_sq fun k29 h29 => c_rg <| r_mv rfl rfl <| r_lS Tryz.underlying9 rfl rfl <| r_gtT rfl rfl rfl (by omega) <| r_nx h29 <| c_cT rfl <| c_sq fun k31 h31 => c_sq fun k33 h33 => c_rg <| r_mv rfl rfl <| r_lS Tryz.underlying9 rfl rfl <| r_mv rfl rfl <| r_ls Tryz.underlying23 rfl rfl <| r_su rfl rfl rfl (wsub64 (by omega)) <| r_qu rfl rfl rfl (by omega) (wquo64 (by omega)) <| r_geF rfl rfl rfl (by omega) <| r_nx h33 <| c_cF rfl <| c_sk <| WE.then_n h31 <| c_rg <| r_mv rfl rfl <| r_mv rfl rfl <| r_lS Tryz.underlying9 rfl rfl <| r_mv rfl rfl <| r_ls Tryz.underlying23 rfl rfl <| r_su rfl rfl rfl (wsub64 (by omega)) <| r_mu rfl rfl rfl (wmul64 (by omega)) <| r_ad rfl rfl rfl (wadd64 (by omega)) <| r_as rfl rfl <| r_nx h27 <| c_sq fun k35 h35 => c_sq fun k37 h37 => c_rg <| r_mv rfl rfl <| r_ls Tryz.underlying23 rfl rfl <| r_mv rfl rfl <| r_nx h37 <| c_bl ?_; rotate_left)
      have hs0 : sumN (l.take 0) = 0 := rfl
      refine WC.loop (α := Nat) (fun i => [(0, .slice A l.length c), (1, .string dotB), (5, .int .i64 ((l.length : Int) - 1 + (sumN (l.take i) : Int))), (39, .slice A l.length c), (40, .int .i64 l.length), (41, .int .i64 i)]) (fun _ => []) (fun i => i ≤ l.length) (fun i => l.length - i) 0 (by omega)
        ⟨rfl, rfl, congrArg (fun v => some (Value.int .i64 v)) (by rw [hs0, hmul]; omega), rfl, rfl, rfl, trivial⟩ Mem.keep ?_
      intro i hi
      have hle := sumN_le (l.take i) (fun t ht => hs t (List.mem_of_mem_take ht))
      have hti : (l.take i).length ≤ i := List.length_take_le _ _
      by_cases hlt : i < l.length
      · have hsi : (l.getD i ⟨#[]⟩).size ≤ 500000 := hs _ (by simp [hlt])
        have hsn := sumN_snoc (l.take i) (l.getD i ⟨#[]⟩)
        rw [← takeS hlt] at hsn
        (refine c_sq fun k48 h48 => c_rg <| r_ltT rfl rfl rfl (by omega) <| r_nx h48 <| c_sq fun k50 h50 => c_cT rfl <| c_sk <| WE.then_n h50 <| c_sq fun k52 h52 => c_bl <| c_sq fun k54 h54 => c_rg <| r_im (hA.app _) Tryz.underlying23 (by kernel_rfl) rfl rfl rfl rfl (by omega) (by omega) <| r_lt (i) (hA.app _) Tryz.underlying9 rfl rfl rfl (by omega) <| r_as rfl rfl <| r_nx h54 <| c_sq fun k56 h56 => c_sq fun k58 h58 => c_rg <| r_mv rfl rfl <| r_lS Tryz.underlying9 rfl rfl <| r_mv rfl rfl <| r_su rfl rfl rfl (wsub64 (by omega)) <| r_gtF rfl rfl rfl (by omega) <| r_nx h58 <| c_cF rfl <| c_sk <| WE.then_n h56 <| c_rg <| r_mv rfl rfl <| r_mv rfl rfl <| r_lS Tryz.underlying9 rfl rfl <| r_ad rfl rfl rfl (wadd64 (by omega)) <| r_as rfl rfl <| r_nl <| WE.blk_n <| WE.then_n h52 <| c_rg <| r_ad rfl rfl rfl (wadd64 (by omega)) <| r_mv rfl rfl <| r_nl ?_; rotate_left)
        exact WE.back (i + 1) (by omega) (by omega) ⟨rfl, rfl, congrArg (fun v => some (Value.int .i64 v)) (by rw [hsn]; omega), rfl, rfl, rfl, trivial⟩ Mem.keep
      · have hta : l.take i = l := List.take_of_length_le (by omega)
        rw [hta] at hle ⊢
        have hN : (l.length : Int) - 1 + (sumN l : Int) = ((l.length - 1 + sumN l : Nat) : Int) := by omega
        rw [hN]
        (refine c_sq fun k48 h48 => c_rg <| r_ltF rfl rfl rfl (by omega) <| r_nx h48 <| c_sq fun k50 h50 => c_cF rfl <| c_ex <| WE.then_x <| WE.then_x <| WE.blk_x <| WE.then_n h35 <| c_sq fun k52 h52 => c_rg <| r_al (z := .agg #[.pointer none, .slice none 0 0]) (cs := [.pointer none, .slice none 0 0]) (fun _ => by kernel_rfl) rfl rfl (fun _ => ?_); refine r_nx h52 <| c_sq fun k55 h55 => c_rg <| r_mv rfl rfl ?_; rotate_left)
        rename_i g
        refine WX.call (m1 := [BB false g (none, 0) []]) (m2 := []) rfl rfl rfl (bGrow_spec false g (l.length - 1 + sumN l) (by omega) _ _) rfl rfl (fun p _ => ?_)
        (refine r_nx h55 <| c_sq fun k59 h59 => c_rg <| r_mv rfl rfl <| r_im (hA.app _) Tryz.underlying23 (by kernel_rfl) rfl rfl rfl rfl (by omega) (by omega) <| r_lt (0) (hA.app _) Tryz.underlying9 rfl rfl rfl (by omega) ?_; rotate_left)
        have hs0' : (l.getD 0 ⟨#[]⟩).size ≤ 500000 := hs _ (by simp [show 0 < l.length by omega])
        have hb0 : (l.getD 0 ⟨#[]⟩).data.toList.length = (l.getD 0 ⟨#[]⟩).size := by simp
        refine WX.call (m1 := [BB true g p [], OwnB p []]) (m2 := []) rfl rfl rfl (writeString_spec true g p [] (l.getD 0 ⟨#[]⟩) (by rw [List.length_nil]; omega) _ _) rfl rfl (fun p1 _ => ?_)
        rw [List.nil_append]
        (refine r_nx h59 <| c_sq fun k65 h65 => c_sq fun k67 h67 => c_rg <| r_mv rfl rfl ?_; rotate_left)
        refine r_sf elemS sizeS rfl rfl (by omega) (by omega) rfl ?_
        have hsl : sliced A (Int.toNat 1) l.length c 1 = .slice (A.map (·.add 1)) (l.drop 1).length (c - 1) := by
          unfold sliced
          rw [if_neg (by omega), List.length_drop]
          rfl
        rw [hsl]
        have hR := Rd.drop1 hA
        have hld : (l.drop 1).length = l.length - 1 := by simp
        generalize hrest : l.drop 1 = rest at hR hld
        (refine r_ls Tryz.underlying23 rfl rfl <| r_mv rfl rfl <| r_nx h67 <| c_bl ?_; rotate_left)
        have hrs : ∀ t ∈ rest, t.size ≤ 500000 := fun t ht => hs t (by rw [← hrest] at ht; exact List.mem_of_mem_drop ht)
        generalize hb0e : (l.getD 0 ⟨#[]⟩).data.toList = b0 at hb0 ⊢
        refine WC.loop (α := Nat × (Option Addr × Nat)) (fun x => [(1, .string dotB), (8, .pointer (some ⟨g, 0, none⟩)), (63, .slice (A.map (·.add 1)) rest.length (c - 1)), (64, .int .i64 rest.length), (65, .int .i64 x.1)])
          (fun x => [BB true g x.2 (b0 ++ tailJ dotB (rest.take x.1)), OwnB x.2 (b0 ++ tailJ dotB (rest.take x.1))]) (fun x => x.1 ≤ rest.length) (fun x => rest.length - x.1) (0, p1) (by simp) ⟨rfl, rfl, rfl, rfl, rfl, trivial⟩
          (by dsimp only; rw [show b0 ++ tailJ dotB (rest.take 0) = b0 by simp [tailJ]]; exact Mem.keep) ?_
        rintro ⟨j, p⟩ hj
        dsimp only at hj ⊢
        have htl := tailJ_len (rest.take j)
        have hsl2 := sumN_le (rest.take j) (fun t ht => hrs t (List.mem_of_mem_take ht))
        have htj : (rest.take j).length ≤ rest.length := by simp; omega
        by_cases hjl : j < rest.length
        · have hej : (rest.getD j ⟨#[]⟩).size ≤ 500000 := hrs _ (by simp [hjl])
          have hsn := tailJ_snoc (rest.take j) (rest.getD j ⟨#[]⟩)
          rw [← takeS hjl] at hsn
          have hd1 : dotB.size = 1 := rfl
          have hd2 : dotB.data.toList.length = 1 := rfl
          (refine c_sq fun k90 h90 => c_rg <| r_ltT rfl rfl rfl (by omega) <| r_nx h90 <| c_sq fun k92 h92 => c_cT rfl <| c_sk <| WE.then_n h92 <| c_sq fun k94 h94 => c_bl <| c_sq fun k96 h96 => c_rg <| r_im (hR.app _) Tryz.underlying23 (by kernel_rfl) rfl rfl rfl rfl (by omega) (by omega) <| r_lt (j) (hR.app _) Tryz.underlying9 rfl rfl rfl (by omega) <| r_as rfl rfl <| r_nx h96 <| c_sq fun k98 h98 => c_rg <| r_mv rfl rfl ?_; rotate_left)
          refine WX.call (m1 := [BB true g p (b0 ++ tailJ dotB (rest.take j)), OwnB p (b0 ++ tailJ dotB (rest.take j))]) (m2 := []) rfl rfl rfl (writeString_spec true g p (b0 ++ tailJ dotB (rest.take j)) dotB (by rw [List.length_append]; omega) _ _) rfl rfl (fun p2 _ => ?_)
          (refine r_nx h98 <| c_rg <| r_mv rfl rfl ?_; rotate_left)
          refine WX.call (m1 := [BB true g p2 (b0 ++ tailJ dotB (rest.take j) ++ dotB.data.toList), OwnB p2 (b0 ++ tailJ dotB (rest.take j) ++ dotB.data.toList)]) (m2 := []) rfl rfl rfl (writeString_spec true g p2 (b0 ++ tailJ dotB (rest.take j) ++ dotB.data.toList) (rest.getD j ⟨#[]⟩) (by rw [List.length_append, List.length_append]; omega) _ _) rfl rfl (fun p3 _ => ?_)
          have hcon : b0 ++ tailJ dotB (rest.take j) ++ dotB.data.toList ++ (rest.getD j ⟨#[]⟩).data.toList = b0 ++ tailJ dotB (rest.take (j + 1)) := by
            rw [hsn]
            simp only [List.append_assoc]
          rw [hcon]
          (refine r_nl <| WE.blk_n <| WE.then_n h94 <| c_rg <| r_ad rfl rfl rfl (wadd64 (by omega)) <| r_mv rfl rfl <| r_nl ?_; rotate_left)
          exact WE.back (j + 1, p3) (by dsimp only; omega) (by dsimp only; omega) ⟨rfl, rfl, rfl, rfl, rfl, trivial⟩ Mem.keep
        · have htk : rest.take j = rest := List.take_of_length_le (by omega)
          rw [htk] at htl ⊢
          (refine c_sq fun k87 h87 => c_rg <| r_ltF rfl rfl rfl (by omega) <| r_nx h87 <| c_sq fun k89 h89 => c_cF rfl <| c_ex <| WE.then_x <| WE.then_x <| WE.blk_x <| WE.then_n h65 <| c_sq fun k91 h91 => c_rg ?_; rotate_left)
          refine WX.call (m1 := [BB true g p (b0 ++ tailJ dotB rest), OwnB p (b0 ++ tailJ dotB rest)]) (m2 := []) rfl rfl rfl (bString_spec true g p (b0 ++ tailJ dotB rest) (by rw [List.length_append]; rw [htk] at hsl2; omega) (fun h => by
            have := congrArg List.length h
            rw [List.length_append, List.length_nil] at this
            omega) _ _) rfl rfl (fun _ _ => ?_)
          have hjp : joinP dotB l = ⟨(b0 ++ tailJ dotB rest).toArray⟩ := by
            rw [← hb0e, ← hrest]
            cases l with
            | nil => exact absurd rfl h0
            | cons x r =>
              cases r with
              | nil => exact absurd rfl h1
              | cons y r => rfl
          (refine r_as rfl rfl <| r_nx h91 <| c_rt ?_; rotate_left)
          exact WE.ret1 () rfl rfl (by rw [hjp]; rfl) trivial Mem.keep
end Go.Proofs.YtkggplnigjlegaaGreatDoor

/- label.All: the walk. -/
set_option linter.unusedVariables false
namespace Go.Proofs.YtkggplnigjlegaaGreatDoor
open Go.RowKit Go.Gp

/-- The parts, each for itself. -/
def partsS : List (List Int) → Option (List ByteArray)
  | [] => some []
  | p :: ps => match oneP p with
    | none => none
    | some s => (partsS ps).map (s :: ·)
def foldP (l : List Int) : List Int := compR (mapAll l)
/-- A whole name; 2: it has no form; 3: it is empty. -/
def allP (l : List Int) : Except Int ByteArray :=
  if okAll l = false then .error 2
  else match partsS (splitP 46 (foldP l)) with
    | none => .error 2
    | some ss => if joinP dotB ss = ⟨#[]⟩ then .error 3 else .ok (joinP dotB ss)
def allV : Except Int ByteArray → List (Nat × ByteArray) → Value
  | .ok s, _ => .tuple #[.string s, .nilIface]
  | .error n, L => .tuple #[.string ⟨#[]⟩, ecv L n]
def allM : Except Int ByteArray → List (Nat × ByteArray) → List Res
  | .ok _, _ => []
  | .error n, L => ecm L n

/-- What the loop has made. -/
structure AS where
  done : List ByteArray
  p : Option Addr × Nat
  err : Option Nat
def lrec (r : Loop) : Option Nat → Loop
  | none => { r with state := .ready, pending := none }
  | some _ => { r with state := .done, pending := some .ret }
theorem lrec_none {r : Loop} (h1 : r.state = .ready) (h2 : r.pending = none) : r = lrec r none := by
  cases r
  simp only at h1 h2
  subst h1 h2
  rfl
def aerrV : Option Nat → Value
  | none => .nilIface
  | some b => ecv [(b, sLabel)] 2
def aerrM : Option Nat → List Res
  | none => []
  | some b => ecm [(b, sLabel)] 2
def AJ (r : Loop) (lp b2 b3 b6 : Nat) (s : AS) : List Res :=
  .obj lp (.loop (lrec r s.err)) :: .blk b2 [.string ⟨#[]⟩] 9 :: .blk b3 [aerrV s.err] 44 :: .blk b6 [.slice s.p.1 s.done.length s.p.2] 23 ::
    .own s.p.1 s.p.2 s.done.length (strsV s.done) 9 1 :: aerrM s.err
def AR (s : AS) (p : List Int) (s' : AS) (b : Bool) : Prop :=
  match oneP p with
  | none => b = false ∧ s'.err.isSome = true
  | some t => b = true ∧ s'.done = s.done ++ [t] ∧ s'.err = none
def APre (N : Nat) (ps : List (List Int)) (s : AS) : Prop := s.err = none ∧ s.done.length + ps.length ≤ N ∧ ∀ q ∈ ps, q.length ≤ 16000
theorem AR_runs : ∀ (ps : List (List Int)) (s t : AS), s.err = none → Runs AR ps s t → (∃ ss, partsS ps = some ss ∧ t.done = s.done ++ ss ∧ t.err = none) ∨ (partsS ps = none ∧ ∃ b, t.err = some b)
  | [], s, t, h0, h => by
    have e : s = t := h
    subst e
    exact .inl ⟨[], rfl, by simp, h0⟩
  | p :: ps, s, t, h0, h => by
    obtain ⟨s', b, hR, h⟩ := h
    unfold AR at hR
    rw [partsS]
    cases ho : oneP p with
    | none =>
      rw [ho] at hR
      obtain ⟨rfl, h2⟩ := hR
      have e : s' = t := by simpa using h
      subst e
      exact .inr ⟨rfl, Option.isSome_iff_exists.1 h2⟩
    | some u =>
      rw [ho] at hR
      obtain ⟨rfl, h2, h3⟩ := hR
      rcases AR_runs ps s' t h3 (by simpa using h) with ⟨ss, g1, g2, g3⟩ | ⟨g1, g2⟩
      · exact .inl ⟨u :: ss, by simp [g1], by simp [g2, h2], g3⟩
      · exact .inr ⟨by simp [g1], g2⟩
theorem partsS_props : ∀ (ps : List (List Int)) (ss : List ByteArray), partsS ps = some ss → ss.length = ps.length ∧ ∀ t ∈ ss, ∃ p ∈ ps, oneP p = some t
  | [], ss, h => by
    have : ss = [] := by simpa [partsS] using h.symm
    subst this
    simp
  | p :: ps, ss, h => by
    rw [partsS] at h
    cases ho : oneP p with
    | none => rw [ho] at h; cases h
    | some u =>
      rw [ho] at h
      cases hr : partsS ps with
      | none => rw [hr] at h; cases h
      | some rr =>
        rw [hr] at h
        obtain ⟨h1, h2⟩ := partsS_props ps rr hr
        have e : ss = u :: rr := by simpa using h.symm
        subst e
        refine ⟨by simp [h1], fun t ht => ?_⟩
        rcases List.mem_cons.1 ht with ht | ht
        · exact ⟨p, by simp, by rw [ht]; exact ho⟩
        · obtain ⟨q, hq, e⟩ := h2 t ht
          exact ⟨q, by simp [hq], e⟩
theorem Ct.frame {α : Type} {P : Program} {f : FuncId} {args : List Value} {w0 : World} {m m1 m2 m0 : List Res} {φ : α → Prop} {val : α → Value} {M : α → List Res} (h : Ct P f args w0 m1 (m2 ++ m0) φ val M) (hM : ∀ w, Mem w0 (m ++ m0) w → Mem w0 ((m1 ++ m2) ++ m0) w) :
    Ct P f args w0 m m0 φ val (fun x => M x ++ m2) := by
  unfold Ct at h ⊢
  refine ⟨h.1, fun w hw => (h.2 w (by rw [← List.append_assoc]; exact hM w hw)).mono ?_⟩
  rintro e w' ⟨x, hx, he, hm⟩
  exact ⟨x, hx, he, by rw [List.append_assoc]; exact hm⟩

set_option maxRecDepth 100000 in
theorem all_spec (A : Option Addr) (c : Nat) (l : List Int) (hn : l.length ≤ 1000000) (hl : R32 l) (hp : okAll l = true → (foldP l).length ≤ 900000 ∧ ∀ q ∈ splitP 46 (foldP l), q.length ≤ 16000 ∧ ∀ t, oneP q = some t → t.size ≤ 500000) (w0 : World) (m0 : List Res) (hA : Rd w0 m0 A (runes l)) :
    Ct (α := List (Nat × ByteArray)) Tryz.prog 19 [.slice A l.length c] w0 [] m0 (fun L => L ≠ []) (allV (allP l)) (allM (allP l)) := by
  refine Ct.ofM Tryz.func19 rfl (by kernel_rfl) rfl ?_
  (refine c_sq fun k10 h10 => c_rg <| r_al (z := .string ⟨#[]⟩) (cs := [.string ⟨#[]⟩]) (fun _ => by kernel_rfl) rfl rfl (fun _ => ?_); refine r_al (z := .nilIface) (cs := [.nilIface]) (fun _ => by kernel_rfl) rfl rfl (fun _ => ?_); refine r_nx h10 <| c_sq fun k14 h14 => c_rg <| r_mv rfl rfl ?_; rotate_left)
  rename_i b2 b3
  rcases Bool.eq_false_or_eq_true (okAll l) with hok | hok
  · obtain ⟨hF, hparts⟩ := hp hok
    refine WX.call (m1 := []) (m2 := _) rfl rfl rfl (fold_ok A c l (by omega) hl hok _ _ (hA.app _)) rfl rfl (fun p _ => ?_)
    have hfp : compR (mapAll l) = foldP l := rfl
    rw [hfp]
    have hall : allP l = match partsS (splitP 46 (foldP l)) with
      | none => .error 2
      | some ss => if joinP dotB ss = ⟨#[]⟩ then .error 3 else .ok (joinP dotB ss) := by
      unfold allP
      rw [if_neg (by rw [hok]; decide)]
    generalize foldP l = F at hF hparts hall ⊢
    refine WX.room 0 rfl (fun hpc => ?_)
    (refine r_mv rfl rfl <| r_ex rfl rfl rfl <| r_ex rfl rfl rfl <| r_as rfl rfl <| r_as rfl rfl <| r_nx h14 <| c_sq fun k27 h27 => c_sq fun k29 h29 => c_rg <| r_mv rfl rfl <| r_bk (.bool false) rfl rfl (fun _ => by kernel_rfl) rfl <| r_nx h29 <| c_cF rfl <| c_sk <| WE.then_n h27 <| c_sq fun k31 h31 => c_rg <| r_al (z := .slice none 0 0) (cs := [.slice none 0 0]) (fun _ => by kernel_rfl) rfl rfl (fun _ => ?_); refine r_nx h31 ?_; rotate_left)
    refine c_sqD (fun K hK => ?_)
    (refine c_sq fun k36 h36 => c_rg <| r_mv rfl rfl ?_; rotate_left)
    rename_i b6
    refine WX.call (m1 := []) (m2 := _) rfl rfl rfl (parts_spec p.1 F.length p.2 _ _) rfl rfl (fun bp _ => ?_)
    (refine r_nx h36 <| c_bl ?_; rotate_left)
    refine WC.range rfl (fun dk lp r hr1 hr2 hr3 hr4 hr5 hsl => ?_)
    have hspl := splitP_len 46 F
    refine ⟨AS, fun t => Runs AR (splitP 46 F) ⟨[], (none, 0), none⟩ t, fun _ => .tuple #[], fun t => AJ r lp b2 b3 b6 t ++ [OwnR p F, .obj dk (.deferred (some []))], ?_, ?_⟩
    · refine Ct.frame (m1 := .blk bp [.slice p.1 F.length p.2] 47 :: AJ r lp b2 b3 b6 ⟨[], (none, 0), none⟩) (m2 := [OwnR p F, .obj dk (.deferred (some []))]) ?_ ?_
      · refine parts1_spec lp bp (AJ r lp b2 b3 b6) (APre 1000000) AR F p.1 p.2 (by omega) hpc w0 _ (Rd.own 0 rfl) _ ⟨rfl, by dsimp only; simp; omega, fun q hq => (hparts q hq).1⟩ ?_ ?_
        · rintro s q ps s' ⟨h1, h2, h3⟩ hR
          unfold AR at hR
          cases ho : oneP q with
          | none => rw [ho] at hR; cases hR.1
          | some u =>
            rw [ho] at hR
            refine ⟨hR.2.2, ?_, fun q' hq' => h3 q' (by simp [hq'])⟩
            rw [hR.2.1]
            simp at h2 ⊢
            omega
        · rintro ⟨done, p', err⟩ q ps B c' mm ⟨h1, h2, h3⟩ hqc hB
          dsimp only at h1 h2
          subst h1
          have hq := h3 q (by simp)
          have hr3' : (lrec r none).params = #[22] := hr3
          refine YCt.of (r := lrec r none) 0 hr3' rfl hsl rfl ?_
          rw [show (lrec r none).assign = _ from hr4, show (lrec r none).body = _ from hr5]
          clear hr4 hr5 hr3 hr3' hsl hspl
          (refine c_rg <| r_as rfl rfl <| r_nl ?_; rotate_left)
          refine WE.begin (r := lrec r none) 0 rfl rfl ?_
          simp only [AJ, aerrM, aerrV]
          (refine c_bl <| c_sq fun k64 h64 => c_rg <| r_mv rfl rfl ?_; rotate_left)
          refine WX.call (m1 := []) (m2 := _) rfl rfl rfl (one_spec B c' q hq _ _ (hB.app _)) rfl rfl (fun b _ => ?_)
          have hAR : ∀ s' bb, AR ⟨done, p', none⟩ q s' bb ↔ match oneP q with
            | none => bb = false ∧ s'.err.isSome = true
            | some t => bb = true ∧ s'.done = done ++ [t] ∧ s'.err = none := fun _ _ => Iff.rfl
          generalize oneP q = ro at hAR ⊢
          cases ro with
          | none =>
            simp only [oneV, oneM, ecv, ecm]
            (refine r_mv rfl rfl <| r_ex rfl rfl rfl <| r_ex rfl rfl rfl <| r_as rfl rfl <| r_as rfl rfl <| r_nx h64 <| c_sq fun k69 h69 => c_sq fun k71 h71 => c_rg <| r_mv rfl rfl <| r_bk (.bool true) rfl rfl (fun _ => by kernel_rfl) rfl <| r_nx h71 <| c_cT rfl <| c_sq fun k73 h73 => c_rg <| r_mv rfl rfl <| r_st 2 (by kernel_rfl) rfl rfl rfl rfl rfl rfl rfl <| r_st 3 (by kernel_rfl) rfl rfl rfl rfl rfl rfl rfl <| r_nx h73 <| c_rt <| WE.then_r <| WE.blk_r ?_; rotate_left)
            exact WE.round_r 1 (⟨done, p', some b⟩, false) rfl rfl ((hAR _ _).2 ⟨rfl, rfl⟩) (Mem.pick [1, 2, 3, 4, 5, 0] (by decide) rfl)
          | some u =>
            simp only [oneV, oneM]
            (refine r_mv rfl rfl <| r_ex rfl rfl rfl <| r_ex rfl rfl rfl <| r_as rfl rfl <| r_as rfl rfl <| r_nx h64 <| c_sq fun k72 h72 => c_sq fun k74 h74 => c_rg <| r_mv rfl rfl <| r_bk (.bool false) rfl rfl (fun _ => by kernel_rfl) rfl <| r_nx h74 <| c_cF rfl <| c_sk <| WE.then_n h72 <| c_rg <| r_lb 3 Tryz.underlying23 rfl rfl rfl rfl rfl <| r_mv rfl rfl <| r_bo Tryz.underlying23 rfl (fun _ => by kernel_rfl) rfl rfl rfl (fun _ => ?_); rotate_left)
            simp at h2
            refine r_am (xs := done) (ys := [u]) 5 (z := .string ⟨#[]⟩) (by_ := 16) (f := (.string ·)) Tryz.underlying23 (by kernel_rfl) rfl rfl rfl rfl (Rd.own 0 rfl) rfl (fun _ => rfl) (by omega) rfl (fun p2 _ => ?_)
            (refine r_st 4 (by kernel_rfl) rfl rfl rfl rfl rfl rfl rfl <| r_nl <| WE.blk_n ?_; rotate_left)
            exact WE.round_n 1 (⟨done ++ [u], p2, none⟩, true) rfl rfl ((hAR _ _).2 ⟨rfl, rfl, rfl⟩) (Mem.pick [1, 2, 3, 4, 5] (by decide) rfl)
      · intro w hw
        rw [lrec_none hr1 hr2] at hw
        exact Mem.pick [3, 1, 7, 6, 4, 0, 5, 2] (by decide) rfl w (Mem.addNil 9 1 w hw)
    · rintro ⟨done, p', err⟩ ht
      have hspn : (splitP 46 F).length ≤ 900001 := by omega
      rcases AR_runs _ _ _ rfl ht with ⟨ss, g1, g2, g3⟩ | ⟨g1, b, g2⟩
      · dsimp only at g2 g3
        rw [List.nil_append] at g2
        subst g2 g3
        rw [g1] at hall
        refine ⟨lrec r none, 0, rfl, by simp [lrec], fun r'' => .inl ⟨rfl, ?_⟩⟩
        refine WE.blk_n ?_
        refine WE.then_n (hK _) ?_
        simp only [AJ, aerrM, aerrV, List.cons_append, List.nil_append, List.set_cons_zero]
        clear hr4 hr5 hsl hr1 hr2 hr3 hspl ht hK
        obtain ⟨e1, e2⟩ := partsS_props _ _ g1
        have hsz : ∀ s ∈ done, s.size ≤ 500000 := fun s hs => by
          obtain ⟨q, hq, ho⟩ := e2 s hs
          exact (hparts q hq).2 s ho
        dsimp only at hall
        (refine c_sq fun k60 h60 => c_rg <| r_lb 3 Tryz.underlying23 rfl rfl rfl rfl rfl ?_; rotate_left)
        refine WX.room 4 rfl (fun hdc => ?_)
        refine WX.pure rfl rfl (join_spec p'.1 p'.2 done (by omega) hsz hdc _ _ (Rd.own 4 rfl)) rfl rfl ?_
        generalize joinP dotB done = js at hall ⊢
        (refine r_as rfl rfl <| r_nx h60 <| c_sq fun k65 h65 => c_sq fun k67 h67 => c_rg <| r_mv rfl rfl ?_; rotate_left)
        refine r_seq rfl rfl (fun _ => rfl) rfl ?_
        by_cases hjs : js = ⟨#[]⟩
        · rw [if_pos hjs] at hall
          rw [decide_eq_true hjs]
          (refine r_nx h67 <| c_cT rfl <| c_sq fun k71 h71 => c_rg <| r_mi rfl (fun _ => by kernel_rfl) rfl ?_; rotate_left)
          refine WX.call (m1 := []) (m2 := _) rfl rfl rfl (wrap_spec sLabel [] 3 _ _) rfl rfl (fun b' _ => ?_)
          (refine r_st 2 (by kernel_rfl) rfl rfl rfl rfl rfl rfl rfl <| r_st 3 (by kernel_rfl) rfl rfl rfl rfl rfl rfl rfl <| r_nx h71 <| c_rt <| WE.then_r ?_; rotate_left)
          exact WE.retM1c2 [(b', sLabel)] rfl rfl Tryz.underlying9 rfl Tryz.underlying44 rfl rfl rfl 2 3 7 rfl rfl rfl (by decide) (by decide) (by rw [hall]; rfl) (by simp) (by rw [hall]; exact Mem.pick [0] (by decide) rfl)
        · rw [if_neg hjs] at hall
          rw [decide_eq_false hjs]
          (refine r_nx h67 <| c_cF rfl <| c_sk <| WE.then_n h65 <| c_sq fun k71 h71 => c_rg <| r_mv rfl rfl <| r_st 1 (by kernel_rfl) rfl rfl rfl rfl rfl rfl rfl <| r_st 2 (by kernel_rfl) rfl rfl rfl rfl rfl rfl rfl <| r_nx h71 <| c_rt ?_; rotate_left)
          exact WE.retM1c2 [(0, sLabel)] rfl rfl Tryz.underlying9 rfl Tryz.underlying44 rfl rfl rfl 1 2 6 rfl rfl rfl (by decide) (by decide) (by rw [hall]; rfl) (by simp) (by rw [hall]; exact Mem.drop)
      · dsimp only at g2
        subst g2
        rw [g1] at hall
        refine ⟨lrec r (some b), 0, rfl, by simp [lrec], fun r'' => .inr (.inl ⟨rfl, ?_⟩)⟩
        refine WE.blk_r ?_
        refine WE.then_r ?_
        simp only [AJ, aerrM, aerrV]
        exact WE.retM1c2 [(b, sLabel)] rfl rfl Tryz.underlying9 rfl Tryz.underlying44 rfl rfl rfl 1 2 7 rfl rfl rfl (by decide) (by decide) (by rw [hall]; rfl) (by simp) (by rw [hall]; exact Mem.pick [5] (by decide) rfl)
  · have hall : allP l = .error 2 := by unfold allP; rw [if_pos hok]
    refine WX.call (m1 := []) (m2 := _) rfl rfl rfl (fold_no A c l (by omega) hl hok _ _ (hA.app _)) rfl rfl (fun b _ => ?_)
    simp only [ecv]
    (refine r_mv rfl rfl <| r_ex rfl rfl rfl <| r_ex rfl rfl rfl <| r_as rfl rfl <| r_as rfl rfl <| r_nx h14 <| c_sq fun k20 h20 => c_sq fun k22 h22 => c_rg <| r_mv rfl rfl <| r_bk (.bool true) rfl rfl (fun _ => by kernel_rfl) rfl <| r_nx h22 <| c_cT rfl <| c_sq fun k24 h24 => c_rg <| r_mv rfl rfl ?_; rotate_left)
    refine WX.call (m1 := []) (m2 := _) rfl rfl rfl (wrap_spec sLabel [(b, sFold)] 2 _ _) rfl rfl (fun b' _ => ?_)
    (refine r_st 3 (by kernel_rfl) rfl rfl rfl rfl rfl rfl rfl <| r_st 2 (by kernel_rfl) rfl rfl rfl rfl rfl rfl rfl <| r_nx h24 <| c_rt <| WE.then_r ?_; rotate_left)
    exact WE.retMc2 [(b', sLabel), (b, sFold)] rfl rfl Tryz.underlying9 rfl Tryz.underlying44 rfl rfl rfl 3 2 rfl rfl (by rw [hall]; rfl) (by simp) (by rw [hall]; exact Mem.pick [0, 1] (by decide) rfl)
end Go.Proofs.YtkggplnigjlegaaGreatDoor

/- Names in letters below 128: the plain laws: what is folded first; two names with a dot between. -/
namespace Go.Proofs.YtkggplnigjlegaaGreatDoor
open Go.RowKit Go.Gp

theorem _root_.Go.Gp.r_sad {C : Cx} {Q : Po} {l : List (Nat × Value)} {m : List Res} {ops : Array Oper} {rest : List Oper} {ty : TypeId} {pos : String} {af : Array Edge} {g : Option (Nat × Bool)} {b : Bool} {d : Nat} {x y : Operand} {t t' : TypeId} {s u : ByteArray}
    (hx : opv l x = some (.string s)) (hy : opv l y = some (.string u)) (h : okk ops l g d C.n = true) (hb : s.size + u.size ≤ 9223372036854775807) (c : WX b C Q ops rest ((d, .string (s ++ u)) :: l) m) : WX b C Q ops (⟨some d, .binOp .add t x y t', ty, pos, af, g⟩ :: rest) l m :=
  r_bi (s := .string (s ++ u)) hx hy (fun _ _ => rfl) (fun w _ => by
    have := run_string_add_sum (P := C.P) w s u hb
    simp only [binOp]
    exact this) h c
theorem oneP_size {l : List Int} (h : l.length ≤ 150) {t : ByteArray} (ht : oneP l = some t) : t.size ≤ 500000 := by
  have h1 := runesBytes_size_le l
  have h2 := encP_len l
  have h3 : 20 * l.length * (l.length + 1) ≤ 20 * 150 * 151 := Nat.mul_le_mul (by omega) (by omega)
  have e1 : (runesBytes l).size ≤ 500000 := by omega
  have e2 : (aceB ++ strOf (encP l)).size ≤ 500000 := by
    have q1 : aceB.size = 4 := rfl
    have q2 : (strOf (encP l)).size = (encP l).length := by simp [strOf, ByteArray.size]
    rw [ByteArray.size_append]
    omega
  unfold oneP at ht
  split at ht
  · cases ht
  · split at ht
    · split at ht
      · cases ht
      · split at ht
        · cases ht
        · split at ht
          · injection ht with ht; rw [← ht]; exact e1
          · cases ht
    · split at ht
      · split at ht
        · cases ht
        · injection ht with ht; rw [← ht]; exact e2
      · injection ht with ht; rw [← ht]; exact e1
/-- What All's walk asks, for short ones. -/
theorem short_ok {l : List Int} (h : (foldP l).length ≤ 150) : (foldP l).length ≤ 900000 ∧ ∀ q ∈ splitP 46 (foldP l), q.length ≤ 16000 ∧ ∀ t, oneP q = some t → t.size ≤ 500000 := by
  have hs := (splitP_len 46 (foldP l)).2
  refine ⟨by omega, fun q hq => ?_⟩
  have := (hs q hq).1
  exact ⟨by omega, fun t ht => oneP_size (by omega) ht⟩
theorem foldP_len (l : List Int) : (foldP l).length ≤ 2 * l.length := by
  have h1 := mapAll_length l
  have h2 := compR_length (mapAll l)
  unfold foldP
  omega
theorem fold2 {l : List Int} (h : ∀ c ∈ l, -2147483648 ≤ c ∧ c ≤ 2147483647) : okAll (foldP l) = true ∧ foldP (foldP l) = foldP l := fold_once h
theorem foldP_fx {l : List Int} (h : ∀ c ∈ l, -2147483648 ≤ c ∧ c ≤ 2147483647) : ∀ x ∈ foldP l, Fx x := compR_fx (mapAll_fx h)
theorem allP_fold {l : List Int} (h : ∀ c ∈ l, -2147483648 ≤ c ∧ c ≤ 2147483647) (hok : okAll l = true) : allP (foldP l) = allP l := by
  obtain ⟨h1, h2⟩ := fold2 h
  unfold allP
  rw [h1, h2, hok]
theorem allP_no {l : List Int} (hok : okAll l = false) : allP l = .error 2 := by unfold allP; rw [if_pos hok]

/-! ### A dot between -/
theorem pair46 (c : Int) : pairR 46 c = 0 := by
  rcases pair_props 46 c with h | h
  · exact h
  · omega
theorem addR_app (t u : List Int) (c : Int) (hu : u ≠ []) : addR (t ++ u) c = t ++ addR u c := by
  rcases List.eq_nil_or_concat u with rfl | ⟨v, x, rfl⟩
  · exact absurd rfl hu
  · rw [List.concat_eq_append, ← List.append_assoc, addR_end, addR_end]
    split <;> simp
theorem addR_ne (u : List Int) (c : Int) : addR u c ≠ [] := by
  rcases List.eq_nil_or_concat u with rfl | ⟨v, x, rfl⟩
  · simp [addR_nil]
  · rw [List.concat_eq_append, addR_end]
    split <;> simp
theorem foldl_app (Y : List Int) : ∀ (t u : List Int), u ≠ [] → Y.foldl addR (t ++ u) = t ++ Y.foldl addR u := by
  induction Y with
  | nil => intro t u _; rfl
  | cons c Y ih =>
    intro t u hu
    rw [List.foldl_cons, List.foldl_cons, addR_app t u c hu, ih t _ (addR_ne u c)]
theorem foldl_dot (S Y : List Int) : Y.foldl addR (S ++ [46]) = S ++ [46] ++ Y.foldl addR [] := by
  cases Y with
  | nil => simp
  | cons c Y =>
    rw [List.foldl_cons, List.foldl_cons, addR_end, if_neg (by rw [pair46]; exact fun h => h rfl), addR_nil]
    exact foldl_app Y (S ++ [46]) [c] (by simp)
theorem foldP_dot (a b : List Int) : foldP (a ++ [46] ++ b) = foldP a ++ [46] ++ foldP b := by
  have e46 : mapAll [46] = [46] := by decide +kernel
  unfold foldP
  rw [mapAll_append, mapAll_append, e46]
  unfold compR
  rw [List.foldl_append, List.foldl_append]
  simp only [List.foldl_cons, List.foldl_nil]
  rw [addR_low _ (by omega), foldl_dot]
theorem okAll_dot (a b : List Int) : okAll (a ++ [46] ++ b) = (okAll a && okAll b) := by
  have e46 : okAll [46] = true := by decide +kernel
  rw [okAll_append, okAll_append, e46, Bool.and_true]
theorem splitP_dot (a b : List Int) : splitP 46 (a ++ [46] ++ b) = splitP 46 a ++ splitP 46 b := by
  induction a with
  | nil => simp [splitP]
  | cons x a ih =>
    simp only [List.cons_append]
    rw [splitP, splitP]
    split
    · rw [ih]; rfl
    · rw [ih]
      have := splitP_ne 46 a
      cases hs : splitP 46 a with
      | nil => exact absurd hs this
      | cons p ps => rfl
theorem splitP_nodot : ∀ p : List Int, (∀ x ∈ p, x ≠ 46) → splitP 46 p = [p]
  | [], _ => rfl
  | x :: p, h => by
    rw [splitP, if_neg (fun e => h x (by simp) e.symm), splitP_nodot p (fun y hy => h y (by simp [hy]))]
theorem splitP_cut {p r : List Int} (h : ∀ x ∈ p, x ≠ 46) : splitP 46 (p ++ [46] ++ r) = p :: splitP 46 r := by
  rw [splitP_dot, splitP_nodot p h]
  rfl
theorem partsS_app (x y : List (List Int)) : partsS (x ++ y) = (partsS x).bind fun s => (partsS y).map (s ++ ·) := by
  induction x with
  | nil => simp [partsS]
  | cons p x ih =>
    rw [List.cons_append, partsS, partsS]
    cases oneP p with
    | none => rfl
    | some u =>
      simp only
      rw [ih]
      cases partsS x with
      | none => rfl
      | some s =>
        cases partsS y with
        | none => rfl
        | some t => rfl
theorem ba_ext {a b : ByteArray} (h : a.data.toList = b.data.toList) : a = b := by
  cases a; cases b
  simp only at h
  exact congrArg ByteArray.mk (Array.ext' h)
theorem join_data : ∀ l : List ByteArray, l ≠ [] → (joinP dotB l).data.toList = (l.headD ⟨#[]⟩).data.toList ++ tailJ dotB (l.drop 1)
  | [], h => absurd rfl h
  | [s], _ => by simp [joinP, tailJ]
  | s :: t :: r, _ => by simp [joinP, joinP.strOf']
theorem tailJ_app (x y : List ByteArray) : tailJ dotB (x ++ y) = tailJ dotB x ++ tailJ dotB y := by simp [tailJ]
theorem joinP_app (x y : List ByteArray) (hx : x ≠ []) (hy : y ≠ []) : joinP dotB (x ++ y) = joinP dotB x ++ dotB ++ joinP dotB y := by
  apply ba_ext
  rw [ByteArray.data_append, ByteArray.data_append, Array.toList_append, Array.toList_append, join_data _ (by simp [hx]), join_data x hx, join_data y hy]
  cases x with
  | nil => exact absurd rfl hx
  | cons s x =>
    cases y with
    | nil => exact absurd rfl hy
    | cons t y =>
      have e : tailJ dotB (t :: y) = dotB.data.toList ++ t.data.toList ++ tailJ dotB y := by simp [tailJ]
      simp only [List.cons_append, List.headD_cons, List.drop_succ_cons, List.drop_zero]
      rw [tailJ_app, e]
      simp only [List.append_assoc]
theorem partsS_ne {f : List Int} {ss : List ByteArray} (h : partsS (splitP 46 f) = some ss) : ss ≠ [] := by
  have := (partsS_props _ _ h).1
  have h2 := splitP_ne 46 f
  intro e
  subst e
  exact h2 (List.eq_nil_of_length_eq_zero this.symm)
/-- How All's answers come about. -/
theorem allP_ok {l : List Int} {s : ByteArray} (h : allP l = .ok s) : okAll l = true ∧ ∃ ss, partsS (splitP 46 (foldP l)) = some ss ∧ s = joinP dotB ss := by
  unfold allP at h
  split at h
  · cases h
  · rename_i hok
    refine ⟨by simpa using hok, ?_⟩
    cases hp : partsS (splitP 46 (foldP l)) with
    | none => rw [hp] at h; cases h
    | some ss =>
      rw [hp] at h
      simp only at h
      split at h
      · cases h
      · injection h with h
        exact ⟨ss, rfl, h.symm⟩
theorem joinP_size (ss : List ByteArray) (h : ∀ s ∈ ss, s.size ≤ 500000) : (joinP dotB ss).size ≤ 500001 * ss.length := by
  cases ss with
  | nil => exact Nat.le_refl 0
  | cons s ss =>
    have h1 := join_data (s :: ss) (by simp)
    have h2 := congrArg List.length h1
    have h3 := tailJ_len ss
    have h4 := sumN_le ss (fun t ht => h t (by simp [ht]))
    have h5 := h s (by simp)
    simp only [List.headD_cons, List.drop_succ_cons, List.drop_zero, List.length_append] at h2
    have e1 : (joinP dotB (s :: ss)).data.toList.length = (joinP dotB (s :: ss)).size := by simp
    have e2 : s.data.toList.length = s.size := by simp
    rw [e1, e2, h3] at h2
    rw [List.length_cons]
    omega
theorem allP_size {l : List Int} (h : ∀ q ∈ splitP 46 (foldP l), ∀ t, oneP q = some t → t.size ≤ 500000) {s : ByteArray} (hs : allP l = .ok s) : s.size ≤ 500001 * ((foldP l).length + 1) := by
  obtain ⟨_, ss, h2, rfl⟩ := allP_ok hs
  obtain ⟨g1, g2⟩ := partsS_props _ _ h2
  have h3 := joinP_size ss (fun s hs => by
    obtain ⟨q, hq, ho⟩ := g2 s hs
    exact h q hq s ho)
  have h4 := (splitP_len 46 (foldP l)).1
  have h5 : 500001 * ss.length ≤ 500001 * ((foldP l).length + 1) := Nat.mul_le_mul_left _ (by omega)
  omega
theorem allP_dot_ok {a b : List Int} {s t : ByteArray} (ha : allP a = .ok s) (hb : allP b = .ok t) : allP (a ++ [46] ++ b) = .ok (s ++ dotB ++ t) := by
  obtain ⟨a1, sa, a2, rfl⟩ := allP_ok ha
  obtain ⟨b1, sb, b2, rfl⟩ := allP_ok hb
  have hj := joinP_app sa sb (partsS_ne a2) (partsS_ne b2)
  unfold allP
  rw [okAll_dot, a1, b1, foldP_dot, splitP_dot, partsS_app, a2, b2]
  simp only [Bool.and_self, Option.bind_some, Option.map_some]
  rw [if_neg (by decide), hj, if_neg]
  intro e
  have := congrArg ByteArray.size e
  rw [ByteArray.size_append, ByteArray.size_append] at this
  have e1 : dotB.size = 1 := rfl
  have e2 : (⟨#[]⟩ : ByteArray).size = 0 := rfl
  omega
theorem allP_bad {l : List Int} (h : allP l = .error 2) : okAll l = false ∨ partsS (splitP 46 (foldP l)) = none := by
  unfold allP at h
  split at h
  · exact .inl (by assumption)
  · cases hp : partsS (splitP 46 (foldP l)) with
    | none => exact .inr rfl
    | some ss =>
      rw [hp] at h
      simp only at h
      split at h
      · injection h with h; cases h
      · cases h
theorem allP_dot_bad {a b : List Int} (h : allP a = .error 2 ∨ allP b = .error 2) : allP (a ++ [46] ++ b) = .error 2 := by
  have key : (okAll a = false ∨ okAll b = false) ∨ (partsS (splitP 46 (foldP a)) = none ∨ partsS (splitP 46 (foldP b)) = none) := by
    rcases h with h | h <;> rcases allP_bad h with h | h
    · exact .inl (.inl h)
    · exact .inr (.inl h)
    · exact .inl (.inr h)
    · exact .inr (.inr h)
  unfold allP
  rw [okAll_dot, foldP_dot, splitP_dot, partsS_app]
  rcases key with h | h
  · rw [if_pos]
    rcases h with h | h <;> rw [h] <;> simp
  · have e : ((partsS (splitP 46 (foldP a))).bind fun s => (partsS (splitP 46 (foldP b))).map (s ++ ·)) = none := by
      rcases h with h | h <;> rw [h]
      · rfl
      · cases partsS (splitP 46 (foldP a)) <;> rfl
    rw [e]
    split <;> rfl
end Go.Proofs.YtkggplnigjlegaaGreatDoor

/- Texts cut at a byte, in plain Lean; make([]T, n). -/
set_option linter.unusedVariables false
namespace Go.Gp
open Go.RowKit
section
variable {C : Cx} {Q : Po} {l : List (Nat × Value)} {m : List Res} {ops : Array Oper} {rest : List Oper} {d : Nat} {ty : TypeId} {pos : String} {af : Array Edge} {g : Option (Nat × Bool)} {t : TypeId} {x y : Operand}
theorem r_mk {e : TypeId} {z : Value} {by_ n : Nat} {k k' : IntKind} (ht : C.P.underlying t = some (.slice e)) (hinf : (C.P.info? e).map (fun i => (i.zero, i.size, i.bytes)) = some (some z, 1, by_)) (hx : opv l x = some (.int k n)) (hy : opv l y = some (.int k' n)) (hn : n * (by_ + 1) ≤ 16777216) (h : okk ops l g d C.n = true)
    (c : ∀ (b : Nat) (xs : List Value), xs.length = n → WX false C Q ops rest ((d, .slice (some ⟨b, 0, none⟩) n n) :: l) (.own (some ⟨b, 0, none⟩) n n xs e 1 :: m)) : WX false C Q ops (⟨some d, .makeSlice t x y, ty, pos, af, g⟩ :: rest) l m := by
  cases hq : C.P.info? e with
  | none => simp [hq] at hinf
  | some inf =>
    have h3 : inf.zero = some z ∧ inf.size = 1 ∧ inf.bytes = by_ := by simpa [hq] using hinf
    have e1 : n * (by_ + 1) = n * by_ + n := by rw [Nat.mul_add, Nat.mul_one]
    refine WX.ev (α := Nat × List Value) (φ := fun p => p.2.length = n) (v := fun p => .slice (some ⟨p.1, 0, none⟩) n n) (m' := fun p => .own (some ⟨p.1, 0, none⟩) n n p.2 e 1 :: m) (fun ev hev w hw => ?_) rfl (okk_1 h) (okk_2 h) rfl (fun p hp => c p.1 p.2 hp)
    obtain ⟨w', h4, h5, h6⟩ := run_makeSlice_full (P := C.P) (w := w) C.w0.heap.size t e inf z 1 ht hq h3.1 h3.2.1 k k' n (by omega) (by rw [h3.2.2, Nat.mul_comm]; omega) (by unfold maxLen; omega) hw.bnd
    refine ⟨(w.heap.size, (madeCells z.cells (n * 1)).toList), w', by simp [size_madeCells], ?_, hw.add h6 h5 (fun k hk => by simp [Res.block] at hk; omega)⟩
    simp [execOp, hev x _ hx, hev y _ hy, h4]
end
end Go.Gp
namespace Go.Proofs.YtkggplnigjlegaaGreatDoor
open Go.RowKit Go.Gp

/-- Bytes cut at every c. -/
def splitL (c : UInt8) : List UInt8 → List (List UInt8)
  | [] => [[]]
  | x :: r => if x = c then [] :: splitL c r else match splitL c r with | [] => [[x]] | p :: ps => (x :: p) :: ps
theorem splitL_ne (c : UInt8) (l : List UInt8) : splitL c l ≠ [] := by
  cases l with
  | nil => simp [splitL]
  | cons x r =>
    rw [splitL]
    split
    · simp
    · split <;> simp
theorem ixB_bd (l : List UInt8) (c : UInt8) : -1 ≤ Go.Lib.indexByte l c ∧ Go.Lib.indexByte l c < l.length := by
  induction l with
  | nil => simp [Go.Lib.indexByte]
  | cons x r ih =>
    rw [Go.Lib.indexByte, List.length_cons]
    split
    · omega
    · split <;> omega
theorem splitL_no (c : UInt8) : ∀ l : List UInt8, Go.Lib.indexByte l c < 0 → splitL c l = [l]
  | [], _ => rfl
  | x :: r, h => by
    rw [Go.Lib.indexByte] at h
    split at h
    · omega
    · rename_i hx
      have hx' : ¬ x = c := by simpa using hx
      have hb := ixB_bd r c
      split at h
      · rename_i hr
        have hr' : Go.Lib.indexByte r c = -1 := by simpa using hr
        rw [splitL, if_neg hx', splitL_no c r (by omega)]
      · omega
theorem splitL_at (c : UInt8) : ∀ l : List UInt8, 0 ≤ Go.Lib.indexByte l c → (Go.Lib.indexByte l c).toNat < l.length ∧ splitL c l = l.take (Go.Lib.indexByte l c).toNat :: splitL c (l.drop ((Go.Lib.indexByte l c).toNat + 1))
  | [], h => by simp [Go.Lib.indexByte] at h
  | x :: r, h => by
    rw [Go.Lib.indexByte] at h ⊢
    by_cases hx : x = c
    · have hx' : (x == c) = true := by simpa using hx
      rw [if_pos hx']
      refine ⟨by simp, ?_⟩
      rw [splitL, if_pos hx]
      rfl
    · have hx' : ¬ (x == c) = true := by simpa using hx
      rw [if_neg hx'] at h ⊢
      have hb := ixB_bd r c
      by_cases hr : (Go.Lib.indexByte r c == -1) = true
      · rw [if_pos hr] at h
        omega
      · rw [if_neg hr] at h ⊢
        have hr' : ¬ Go.Lib.indexByte r c = -1 := by simpa using hr
        obtain ⟨h1, h2⟩ := splitL_at c r (by omega)
        have e : (Go.Lib.indexByte r c + 1).toNat = (Go.Lib.indexByte r c).toNat + 1 := by omega
        rw [e]
        refine ⟨by rw [List.length_cons]; omega, ?_⟩
        rw [splitL, if_neg hx, h2]
        rfl
theorem splitL_count (c : UInt8) (l : List UInt8) : (splitL c l).length = l.count c + 1 := by
  induction l with
  | nil => rfl
  | cons x r ih =>
    rw [splitL, List.count_cons]
    by_cases hx : x = c
    · rw [if_pos hx]
      simp [ih, hx]
    · rw [if_neg hx]
      have := splitL_ne c r
      cases hs : splitL c r with
      | nil => exact absurd hs this
      | cons p ps =>
        rw [hs] at ih
        simp at ih ⊢
        simp [hx]
        omega
theorem splitL_len (c : UInt8) (l : List UInt8) : ∀ p ∈ splitL c l, p.length ≤ l.length ∧ ∀ x ∈ p, x ∈ l ∧ x ≠ c := by
  induction l with
  | nil => simp [splitL]
  | cons x r ih =>
    rw [splitL]
    split
    · intro p hp
      rcases List.mem_cons.1 hp with hp | hp
      · subst hp; simp
      · have := ih p hp
        exact ⟨by simp; omega, fun y hy => ⟨List.mem_cons_of_mem _ (this.2 y hy).1, (this.2 y hy).2⟩⟩
    · rename_i hx
      split
      · rename_i hs
        exact absurd hs (splitL_ne c r)
      · rename_i p ps hs
        rw [hs] at ih
        intro q hq
        rcases List.mem_cons.1 hq with hq | hq
        · subst hq
          have := ih p (by simp)
          refine ⟨by simp; omega, fun y hy => ?_⟩
          rcases List.mem_cons.1 hy with hy | hy
          · subst hy; exact ⟨by simp, hx⟩
          · exact ⟨List.mem_cons_of_mem _ (this.2 y hy).1, (this.2 y hy).2⟩
        · have := ih q (by simp [hq])
          exact ⟨by simp; omega, fun y hy => ⟨List.mem_cons_of_mem _ (this.2 y hy).1, (this.2 y hy).2⟩⟩
/-- A text cut at every c. -/
def splitS (c : UInt8) (s : ByteArray) : List ByteArray := (splitL c s.data.toList).map strOf
theorem strOf_list (s : ByteArray) : strOf s.data.toList = s := by
  unfold strOf
  cases s
  simp
theorem list_strOf (l : List UInt8) : (strOf l).data.toList = l := by simp [strOf]
theorem size_list (s : ByteArray) : s.data.toList.length = s.size := by simp
theorem ext_take (s : ByteArray) (k : Nat) (h : k ≤ s.size) : s.extract 0 k = strOf (s.data.toList.take k) := by
  apply ba_ext
  rw [ByteArray.data_extract, Array.toList_extract, List.extract_eq_take_drop, list_strOf]
  simp
theorem ext_drop (s : ByteArray) (k : Nat) : s.extract k s.size = strOf (s.data.toList.drop k) := by
  apply ba_ext
  rw [ByteArray.data_extract, Array.toList_extract, List.extract_eq_take_drop, list_strOf]
  exact List.take_of_length_le (by simp)
theorem splitS_no {c : UInt8} {s : ByteArray} (h : Go.Lib.indexByte s.data.toList c < 0) : splitS c s = [s] := by
  unfold splitS
  rw [splitL_no c _ h]
  simp [strOf_list]
theorem splitS_at {c : UInt8} {s : ByteArray} (h : 0 ≤ Go.Lib.indexByte s.data.toList c) : (Go.Lib.indexByte s.data.toList c).toNat < s.size ∧ splitS c s = s.extract 0 (Go.Lib.indexByte s.data.toList c).toNat :: splitS c (s.extract ((Go.Lib.indexByte s.data.toList c).toNat + 1) s.size) := by
  obtain ⟨h1, h2⟩ := splitL_at c s.data.toList h
  rw [size_list] at h1
  refine ⟨h1, ?_⟩
  rw [ext_take _ _ (by omega), ext_drop]
  unfold splitS
  rw [h2, list_strOf]
  rfl
theorem splitS_ne (c : UInt8) (s : ByteArray) : splitS c s ≠ [] := by
  unfold splitS
  simp [splitL_ne]
theorem splitS_count (c : UInt8) (s : ByteArray) : (splitS c s).length = s.data.toList.count c + 1 := by
  unfold splitS
  rw [List.length_map, splitL_count]
theorem splitS_len (c : UInt8) (s : ByteArray) : (splitS c s).length ≤ s.size + 1 := by
  rw [splitS_count]
  have := List.count_le_length (a := c) (l := s.data.toList)
  rw [size_list] at this
  omega
theorem splitS_mem (c : UInt8) (s : ByteArray) : ∀ p ∈ splitS c s, p.size ≤ s.size ∧ ∀ x ∈ p.data.toList, x ∈ s.data.toList ∧ x ≠ c := by
  intro p hp
  unfold splitS at hp
  obtain ⟨q, hq, rfl⟩ := List.mem_map.1 hp
  have := splitL_len c s.data.toList q hq
  rw [size_list] at this
  refine ⟨by rw [show (strOf q).size = q.length by simp [strOf, ByteArray.size]]; exact this.1, ?_⟩
  rw [list_strOf]
  exact this.2
end Go.Proofs.YtkggplnigjlegaaGreatDoor

/- strings.Index, Count, Split, SplitSeq at one byte, IndexFunc, CutPrefix: the walks. -/
set_option linter.unusedVariables false
set_option linter.unusedSimpArgs false
namespace Go.Proofs.YtkggplnigjlegaaGreatDoor
open Go.RowKit Go.Gp

set_option maxRecDepth 100000 in
theorem sIndex0_spec (s : ByteArray) (c : UInt8) (hs : s.size ≤ 1000000000) (w0 : World) (m0 : List Res) : PureC Tryz.prog 81 [.string s, .string ⟨#[c]⟩] w0 m0 (.int .i64 (Go.Lib.indexByte s.data.toList c)) := by
  have e1 : (⟨#[c]⟩ : ByteArray).size = 1 := rfl
  refine Ct.of Tryz.func81 rfl (by kernel_rfl) rfl ?_
  have hi := ixB_bd s.data.toList c
  (refine c_sq fun k8 h8 => c_rg <| r_as rfl rfl <| r_nx h8 <| c_sq fun k10 h10 => c_rg <| r_mv rfl rfl <| r_lS Tryz.underlying9 rfl rfl <| r_as rfl rfl <| r_nx h10 <| c_sq fun k12 h12 => c_bl <| c_sq fun k14 h14 => c_rg <| r_mv rfl rfl <| r_eqF rfl rfl rfl (by omega) <| r_mv rfl rfl <| r_mv rfl rfl <| r_mv rfl rfl ?_; rotate_left)
  refine r_seq rfl rfl (fun _ => by kernel_rfl) rfl ?_
  by_cases h : (⟨#[c]⟩ : ByteArray) = s
  · subst h
    simp only [decide_true]
    (refine r_pF rfl rfl rfl <| r_as rfl rfl <| r_nx h14 <| c_cT rfl <| c_sq fun k21 h21 => c_rg <| r_as rfl rfl <| r_nx h21 <| c_rt <| WE.blk_r <| WE.then_r ?_; rotate_left)
    have : Go.Lib.indexByte (⟨#[c]⟩ : ByteArray).data.toList c = 0 := by simp [Go.Lib.indexByte]
    rw [this]
    exact WE.ret1 () rfl rfl rfl trivial Mem.drop
  · rw [decide_eq_false h]
    (refine r_pF rfl rfl rfl <| r_as rfl rfl <| r_nx h14 <| c_cF rfl <| c_sq fun k17 h17 => c_rg <| r_mv rfl rfl <| r_eqT rfl rfl rfl (by omega) <| r_as rfl rfl <| r_nx h17 <| c_cT rfl <| c_sq fun k19 h19 => c_rg <| r_mv rfl rfl <| r_mv rfl rfl ?_; rotate_left)
    refine r_iS (v := c) rfl rfl rfl rfl (by decide) rfl ?_
    (rotate_left)
    refine WX.pure rfl rfl (idx0_spec s c _ _) rfl rfl ?_
    (refine r_as rfl rfl <| r_nx h19 <| c_rt <| WE.blk_r <| WE.then_r ?_; rotate_left)
    exact WE.ret1 () rfl rfl rfl trivial Mem.drop
set_option maxRecDepth 100000 in
theorem sIndex_spec (s : ByteArray) (c : UInt8) (hs : s.size ≤ 1000000000) (w0 : World) (m0 : List Res) : PureC Tryz.prog 49 [.string s, .string ⟨#[c]⟩] w0 m0 (.int .i64 (Go.Lib.indexByte s.data.toList c)) := by
  refine Ct.of Tryz.func49 rfl (by kernel_rfl) rfl ?_
  (refine c_sq fun k6 h6 => c_rg <| r_as rfl rfl <| r_nx h6 <| c_sq fun k8 h8 => c_rg <| r_mv rfl rfl <| r_mv rfl rfl ?_; rotate_left)
  refine WX.pure rfl rfl (sIndex0_spec s c hs _ _) rfl rfl ?_
  (refine r_as rfl rfl <| r_nx h8 <| c_rt ?_; rotate_left)
  exact WE.ret1 () rfl rfl rfl trivial Mem.drop
theorem x_cnt (s : ByteArray) (c : UInt8) (w : World) : (callFunc 80 #[.string s, .int .u8 c.toNat]).run Tryz.prog w = .ok (.value (.int .i64 (s.data.toList.count c : Nat))) w := by
  rw [run_callFunc_extern (e := Extern.BytealgCount.count) Tryz.func80 (by kernel_rfl) (by kernel_rfl) (by kernel_rfl) (by kernel_rfl), Go.Lib.run_countString]
  simp [Go.Lib.countByte]
set_option maxRecDepth 100000 in
theorem sCount_spec (s : ByteArray) (c : UInt8) (hs : s.size ≤ 1000000000) (w0 : World) (m0 : List Res) : PureC Tryz.prog 48 [.string s, .string ⟨#[c]⟩] w0 m0 (.int .i64 (s.data.toList.count c : Nat)) := by
  have e1 : (⟨#[c]⟩ : ByteArray).size = 1 := rfl
  refine Ct.of Tryz.func48 rfl (by kernel_rfl) rfl ?_
  (refine c_sq fun k7 h7 => c_rg <| r_as rfl rfl <| r_nx h7 <| c_sq fun k9 h9 => c_sq fun k11 h11 => c_rg <| r_mv rfl rfl <| r_lS Tryz.underlying9 rfl rfl <| r_eqF rfl rfl rfl (by omega) <| r_nx h11 <| c_cF rfl <| c_sk <| WE.then_n h9 <| c_sq fun k13 h13 => c_sq fun k15 h15 => c_rg <| r_mv rfl rfl <| r_lS Tryz.underlying9 rfl rfl <| r_eqT rfl rfl rfl (by omega) <| r_nx h15 <| c_cT rfl <| c_sq fun k17 h17 => c_rg <| r_mv rfl rfl <| r_mv rfl rfl ?_; rotate_left)
  refine r_iS (v := c) rfl rfl rfl rfl (by decide) rfl ?_
  (rotate_left)
  refine r_xv rfl rfl (fun w => x_cnt s c w) rfl ?_
  (refine r_as rfl rfl <| r_nx h17 <| c_rt <| WE.then_r ?_; rotate_left)
  exact WE.ret1 () rfl rfl rfl trivial Mem.drop
theorem set_at (done : List ByteArray) (ys : List Value) (p : ByteArray) (h : 0 < ys.length) : (strsV done ++ ys).set done.length (.string p) = strsV (done ++ [p]) ++ ys.tail := by
  rw [List.set_append_right _ _ (by simp), strsV, List.length_map, Nat.sub_self]
  cases ys with
  | nil => simp at h
  | cons y ys => simp
set_option maxRecDepth 100000 in
theorem genSplit_spec (s : ByteArray) (c : UInt8) (hs : s.size ≤ 800000) (w0 : World) (m0 : List Res) : Ct (α := Nat) Tryz.prog 25 [.string s, .string ⟨#[c]⟩, .int .i64 0, .int .i64 (-1)] w0 [] m0 (fun _ => True) (fun b => .slice (some ⟨b, 0, none⟩) (splitS c s).length (splitS c s).length) (fun b => [.own (some ⟨b, 0, none⟩) (splitS c s).length (splitS c s).length (strsV (splitS c s)) 9 1]) := by
  have e1 : (⟨#[c]⟩ : ByteArray).size = 1 := rfl
  have hN := splitS_count c s
  have hN2 := splitS_len c s
  generalize hNe : (splitS c s).length = N at hN hN2 ⊢
  refine Ct.of Tryz.func25 rfl (by kernel_rfl) rfl ?_
  (refine c_sq fun k11 h11 => c_rg <| r_as rfl rfl <| r_nx h11 <| c_sq fun k13 h13 => c_sq fun k15 h15 => c_rg <| r_mv rfl rfl <| r_eqF rfl rfl rfl (by omega) <| r_nx h15 <| c_cF rfl <| c_sk <| WE.then_n h13 <| c_sq fun k17 h17 => c_sq fun k19 h19 => c_rg <| r_mv rfl rfl ?_; rotate_left)
  refine r_seq rfl rfl (fun _ => by kernel_rfl) rfl ?_
  rw [show decide ((⟨#[c]⟩ : ByteArray) = ⟨#[]⟩) = false from decide_eq_false (fun h => by have := congrArg ByteArray.size h; simp [ByteArray.size] at this)]
  (refine r_nx h19 <| c_cF rfl <| c_sk <| WE.then_n h17 <| c_sq fun k21 h21 => c_sq fun k23 h23 => c_rg <| r_mv rfl rfl <| r_ltT rfl rfl rfl (by omega) <| r_nx h23 <| c_cT rfl <| c_rg <| r_mv rfl rfl <| r_mv rfl rfl ?_; rotate_left)
  refine WX.pure rfl rfl (sCount_spec s c (by omega) _ _) rfl rfl ?_
  (refine r_ad rfl rfl rfl (wadd64 (by omega)) <| r_as rfl rfl <| r_nx h21 <| c_sq fun k25 h25 => c_rg <| r_mv rfl rfl <| r_mv rfl rfl <| r_lS Tryz.underlying9 rfl rfl <| r_ad rfl rfl rfl (wadd64 (by omega)) <| r_mn rfl rfl rfl <| r_as rfl rfl <| r_nx h25 <| c_sq fun k27 h27 => c_rg <| r_mv rfl rfl ?_; rotate_left)
  rw [show (min (↑(List.count c s.data.toList) + 1) (↑s.size + 1) : Int) = (N : Nat) from by omega]
  refine r_mk (by_ := 16) (z := .string ⟨#[]⟩) Tryz.underlying23 (by kernel_rfl) rfl rfl (by omega) rfl (fun b xs hxs => ?_)
  (refine r_as rfl rfl <| r_nx h27 <| c_sq fun k32 h32 => c_rg <| r_mv rfl rfl <| r_su rfl rfl rfl (wsub64 (by omega)) <| r_as rfl rfl <| r_nx h32 <| c_sq fun k34 h34 => c_rg <| r_as rfl rfl <| r_nx h34 ?_)
  refine WC.cut (α := ByteArray × List ByteArray × List Value) (fun x => [(0, .string x.1), (9, .slice (some ⟨b, 0, none⟩) N N), (10, .int .i64 (x.2.1.length : Nat))]) (fun x => [.own (some ⟨b, 0, none⟩) N N (strsV x.2.1 ++ x.2.2) 9 1]) (fun x => splitS c s = x.2.1 ++ [x.1] ∧ x.2.2.length = 1) ?_ ?_
  · refine WC.block ?_
    refine WC.loop (α := ByteArray × List ByteArray × List Value) (fun x => [(0, .string x.1), (1, .string ⟨#[c]⟩), (2, .int .i64 0), (3, .int .i64 (N - 1)), (9, .slice (some ⟨b, 0, none⟩) N N), (10, .int .i64 (x.2.1.length : Nat))]) (fun x => [.own (some ⟨b, 0, none⟩) N N (strsV x.2.1 ++ x.2.2) 9 1]) (fun x => splitS c s = x.2.1 ++ splitS c x.1 ∧ x.2.2.length + x.2.1.length = N ∧ x.1.size ≤ 800000) (fun x => x.2.2.length) (s, [], xs) ⟨rfl, by simpa using hxs, hs⟩ ⟨rfl, rfl, rfl, rfl, rfl, rfl, trivial⟩ Mem.keep ?_
    rintro ⟨r, done, ys⟩ ⟨h1, h2, h3⟩
    dsimp only at h1 h2 h3 ⊢
    have hl := congrArg List.length h1
    rw [hNe, List.length_append] at hl
    have hrne := splitS_ne c r
    by_cases hi : Go.Lib.indexByte r.data.toList c < 0
    · have hsp := splitS_no hi
      rw [hsp, List.length_singleton] at hl
      (refine c_sq fun k50 h50 => c_sq fun k52 h52 => c_rg <| r_mv rfl rfl <| r_mv rfl rfl <| r_ltF rfl rfl rfl (by omega) <| r_nx h52 <| c_cF rfl <| c_ex <| WE.then_x <| WE.then_x <| WE.blk_x ?_; rotate_left)
      exact WE.met (r, done, ys) ⟨by dsimp only; rw [h1, hsp], by dsimp only; omega⟩ ⟨rfl, rfl, rfl, trivial⟩ Mem.keep
    · obtain ⟨hk, hsp⟩ := splitS_at (c := c) (s := r) (by omega)
      have hne2 := List.length_pos_iff.2 (splitS_ne c (r.extract ((Go.Lib.indexByte r.data.toList c).toNat + 1) r.size))
      rw [hsp, List.length_cons] at hl
      (refine c_sq fun k52 h52 => c_sq fun k54 h54 => c_rg <| r_mv rfl rfl <| r_mv rfl rfl <| r_ltT rfl rfl rfl (by omega) <| r_nx h54 <| c_cT rfl <| c_sk <| WE.then_n h52 <| c_bl <| c_sq fun k56 h56 => c_rg <| r_mv rfl rfl <| r_mv rfl rfl ?_; rotate_left)
      refine WX.pure rfl rfl (sIndex_spec r c (by omega) _ _) rfl rfl ?_
      generalize hke : Go.Lib.indexByte r.data.toList c = k at hi hk hsp hl hne2 ⊢
      (refine r_as rfl rfl <| r_nx h56 <| c_sq fun k65 h65 => c_sq fun k67 h67 => c_rg <| r_mv rfl rfl <| r_ltF rfl rfl rfl (by omega) <| r_nx h67 <| c_cF rfl <| c_sk <| WE.then_n h65 <| c_sq fun k69 h69 => c_rg <| r_mv rfl rfl <| r_mv rfl rfl <| r_mv rfl rfl <| r_mv rfl rfl <| r_mv rfl rfl <| r_ad rfl rfl rfl (wadd64 (by omega)) ?_; rotate_left)
      refine r_sT Tryz.underlying9 rfl rfl (by omega) (by omega) rfl ?_
      rw [show (k + 0).toNat = k.toNat by omega]
      refine r_ia (i := (done.length : Nat)) Tryz.underlying23 (by kernel_rfl) rfl rfl rfl (fun _ => rfl) (by omega) (by omega) ?_
      rw [Int.toNat_natCast]
      refine r_so (m' := [.own (some ⟨b, 0, none⟩) N N (strsV (done ++ [r.extract 0 k.toNat]) ++ ys.tail) 9 1]) 0 done.length (by kernel_rfl) rfl rfl rfl rfl (by omega) (by show [Res.own _ _ _ _ _ _] = _; rw [set_at _ _ _ (by omega)]) rfl ?_
      (refine r_nx h69 <| c_sq fun k71 h71 => c_rg <| r_mv rfl rfl <| r_mv rfl rfl <| r_mv rfl rfl <| r_lS Tryz.underlying9 rfl rfl <| r_ad rfl rfl rfl (wadd64 (by omega)) ?_; rotate_left)
      refine r_sF Tryz.underlying9 rfl rfl (by omega) (by omega) rfl ?_
      rw [e1, show (k + ((1 : Nat) : Int)).toNat = k.toNat + 1 by omega]
      (refine r_as rfl rfl <| r_nx h71 <| c_rg <| r_mv rfl rfl <| r_ad rfl rfl rfl (wadd64 (by omega)) <| r_as rfl rfl <| r_nl <| WE.blk_n ?_; rotate_left)
      have e2 : (r.extract (k.toNat + 1) r.size).size = _ := ByteArray.size_extract
      exact WE.back (r.extract (k.toNat + 1) r.size, done ++ [r.extract 0 k.toNat], ys.tail) ⟨by dsimp only; rw [h1, hsp, List.append_assoc]; rfl, by simp; omega, by dsimp only; omega⟩ (by simp; omega) ⟨rfl, rfl, rfl, rfl, rfl, by rw [List.length_append]; rfl, trivial⟩ Mem.keep
  · rintro ⟨r, done, ys⟩ ⟨h1, h2⟩
    dsimp only at h1 h2 ⊢
    have hl := congrArg List.length h1
    rw [hNe, List.length_append, List.length_singleton] at hl
    (refine c_sq fun k45 h45 => c_rg <| r_mv rfl rfl <| r_mv rfl rfl <| r_mv rfl rfl ?_; rotate_left)
    refine r_ia (i := (done.length : Nat)) Tryz.underlying23 (by kernel_rfl) rfl rfl rfl (fun _ => rfl) (by omega) (by omega) ?_
    rw [Int.toNat_natCast]
    refine r_so (m' := [.own (some ⟨b, 0, none⟩) N N (strsV (splitS c s)) 9 1]) 0 done.length (by kernel_rfl) rfl rfl rfl rfl (by omega) (by
      show [Res.own _ _ _ _ _ _] = _
      rw [set_at _ _ _ (by omega), h1]
      cases ys with
      | nil => simp at h2
      | cons y ys => cases ys with
        | nil => simp
        | cons _ _ => simp at h2) rfl ?_
    (refine r_nx h45 <| c_sq fun k47 h47 => c_rg <| r_mv rfl rfl <| r_mv rfl rfl <| r_ad rfl rfl rfl (wadd64 (by omega)) ?_; rotate_left)
    refine r_sto elemS sizeS rfl rfl (by omega) (by omega) rfl ?_
    rw [sliced_0, show ((done.length : Nat) + 1 : Int).toNat = N by omega]
    (refine r_as rfl rfl <| r_nx h47 <| c_rt ?_; rotate_left)
    exact WE.ret1 b rfl rfl rfl trivial Mem.keep
set_option maxRecDepth 100000 in
theorem split_spec (s : ByteArray) (c : UInt8) (hs : s.size ≤ 800000) (w0 : World) (m0 : List Res) : Ct (α := Nat) Tryz.prog 12 [.string s, .string ⟨#[c]⟩] w0 [] m0 (fun _ => True) (fun b => .slice (some ⟨b, 0, none⟩) (splitS c s).length (splitS c s).length) (fun b => [.own (some ⟨b, 0, none⟩) (splitS c s).length (splitS c s).length (strsV (splitS c s)) 9 1]) := by
  refine Ct.of Tryz.func12 rfl (by kernel_rfl) rfl ?_
  (refine c_sq fun k6 h6 => c_rg <| r_as rfl rfl <| r_nx h6 <| c_sq fun k8 h8 => c_rg <| r_mv rfl rfl <| r_mv rfl rfl ?_; rotate_left)
  refine WX.call (m1 := []) (m2 := []) rfl rfl rfl (genSplit_spec s c hs _ _) rfl rfl (fun b _ => ?_)
  (refine r_as rfl rfl <| r_nx h8 <| c_rt ?_; rotate_left)
  exact WE.ret1 b rfl rfl rfl trivial Mem.keep
end Go.Proofs.YtkggplnigjlegaaGreatDoor

/- strings.SplitSeq at one byte: the walk, for whatever loop body. -/
set_option linter.unusedVariables false
set_option linter.unusedSimpArgs false
namespace Go.Proofs.YtkggplnigjlegaaGreatDoor
open Go.RowKit Go.Gp

theorem _root_.Go.Gp.Mem.rot3 {w0 : World} {r1 r2 r3 : Res} {J m0 : List Res} : ∀ w, Mem w0 ((r1 :: r2 :: r3 :: J) ++ m0) w → Mem w0 ((J ++ [r1, r2, r3]) ++ m0) w := fun w h => by
  have := Mem.rot w (Mem.rot w (Mem.rot w h))
  simpa [List.append_assoc] using this
theorem _root_.Go.Gp.Mem.unrot3 {w0 : World} {r1 r2 r3 : Res} {J m0 : List Res} : ∀ w, Mem w0 ((J ++ [r1, r2, r3]) ++ m0) w → Mem w0 ((r1 :: r2 :: r3 :: J) ++ m0) w := fun w h => by
  refine Mem.unrot w (Mem.unrot w (Mem.unrot w ?_))
  show Mem w0 ((J ++ [r1] ++ [r2] ++ [r3]) ++ m0) w
  simpa [List.append_assoc] using h
set_option maxRecDepth 100000 in
theorem splitSeq1_spec {σ : Type} (lp b1 b2 b3 : Nat) (J : σ → List Res) (pre : List ByteArray → σ → Prop) (R : σ → ByteArray → σ → Bool → Prop) (s : ByteArray) (c : UInt8) (hs : s.size ≤ 800000) (w0 : World) (m0 : List Res) (s0 : σ) (h0 : pre (splitS c s) s0)
    (hpre : ∀ s p ps s', pre (p :: ps) s → R s p s' true → pre ps s')
    (hY : ∀ (t : σ) (p : ByteArray) (ps : List ByteArray) (mm : List Res), pre (p :: ps) t → YCt Tryz.prog lp [.string p] w0 (J t) (mm ++ m0) (fun x : σ × Bool => R t p x.1 x.2) (fun x => .bool x.2) (fun x => J x.1)) :
    Ct (α := σ) Tryz.prog 82 [.func (.yield lp) #[] #[], .pointer (some ⟨b1, 0, none⟩), .pointer (some ⟨b2, 0, none⟩), .pointer (some ⟨b3, 0, none⟩)] w0 (.blk b3 [.int .i64 0] 3 :: .blk b1 [.string ⟨#[c]⟩] 9 :: .blk b2 [.string s] 9 :: J s0) m0 (fun t => Runs R (splitS c s) s0 t) (fun _ => .tuple #[]) J := by
  have e1 : (⟨#[c]⟩ : ByteArray).size = 1 := rfl
  refine Ct.of Tryz.func82 rfl (by kernel_rfl) rfl ?_
  (refine c_sq fun k19 h19 => c_sq fun k21 h21 => c_rg <| r_lb 1 Tryz.underlying9 rfl rfl rfl rfl rfl <| r_lS Tryz.underlying9 rfl rfl <| r_eqF rfl rfl rfl (by omega) <| r_nx h21 <| c_cF rfl <| c_sk <| WE.then_n h19 <| c_sq fun k23 h23 => c_bl ?_; rotate_left)
  refine WC.loop (α := ByteArray × σ) (fun x => [(0, .func (.yield lp) #[] #[]), (1, .pointer (some ⟨b1, 0, none⟩)), (2, .pointer (some ⟨b2, 0, none⟩)), (3, .pointer (some ⟨b3, 0, none⟩))]) (fun x => .blk b3 [.int .i64 0] 3 :: .blk b1 [.string ⟨#[c]⟩] 9 :: .blk b2 [.string x.1] 9 :: J x.2)
    (fun x => pre (splitS c x.1) x.2 ∧ x.1.size ≤ 800000 ∧ ∀ t, Runs R (splitS c x.1) x.2 t → Runs R (splitS c s) s0 t)
    (fun x => x.1.size) (s, s0) ⟨h0, hs, fun _ h => h⟩ ⟨rfl, rfl, rfl, rfl, trivial⟩ Mem.keep ?_
  rintro ⟨r, t⟩ ⟨hp, hl, hruns⟩
  dsimp only at hp hl hruns ⊢
  have hbd := ixB_bd r.data.toList c
  (refine c_bl <| c_sq fun k31 h31 => c_rg <| r_lb 2 Tryz.underlying9 rfl rfl rfl rfl rfl <| r_lb 1 Tryz.underlying9 rfl rfl rfl rfl rfl ?_; rotate_left)
  refine WX.pure rfl rfl (sIndex_spec r c (by omega) _ _) rfl rfl ?_
  by_cases hi : Go.Lib.indexByte r.data.toList c < 0
  · have hsp := splitS_no hi
    rw [hsp] at hp hruns
    (refine r_as rfl rfl <| r_nx h31 <| c_sq fun k37 h37 => c_sq fun k39 h39 => c_rg <| r_mv rfl rfl <| r_ltT rfl rfl rfl (by omega) <| r_nx h39 <| c_cT rfl <| c_ex <| WE.then_x <| WE.blk_y rfl <| WE.then_x <| WE.blk_x <| WE.then_n h23 <| c_rg <| r_mv rfl rfl <| r_lb 2 Tryz.underlying9 rfl rfl rfl rfl rfl ?_; rotate_left)
    refine WX.mem Mem.rot3 ?_
    refine WX.yield (m1 := J t) (m2 := [.blk b3 [.int .i64 0] 3, .blk b1 [.string ⟨#[c]⟩] 9, .blk b2 [.string r] 9]) rfl rfl rfl (hY t r [] [.blk b3 [.int .i64 0] 3, .blk b1 [.string ⟨#[c]⟩] 9, .blk b2 [.string r] 9] hp) rfl rfl ?_
    rintro ⟨t', bb⟩ hR
    dsimp only at hR ⊢
    (refine r_nl ?_; rotate_left)
    exact WE.end0 t' rfl rfl rfl (hruns t' ⟨t', bb, hR, by cases bb <;> rfl⟩) (fun w hw => Mem.tail (Mem.tail (Mem.tail (Mem.unrot3 w hw))))
  · obtain ⟨hk, hsp⟩ := splitS_at (c := c) (s := r) (by omega)
    rw [hsp] at hp hruns
    generalize hke : Go.Lib.indexByte r.data.toList c = k at hi hk hsp hp hruns hbd ⊢
    (refine r_as rfl rfl <| r_nx h31 <| c_sq fun k43 h43 => c_sq fun k45 h45 => c_rg <| r_mv rfl rfl <| r_ltF rfl rfl rfl (by omega) <| r_nx h45 <| c_cF rfl <| c_sk <| WE.then_n h43 <| c_sq fun k47 h47 => c_rg <| r_lb 2 Tryz.underlying9 rfl rfl rfl rfl rfl <| r_mv rfl rfl <| r_lb 0 Tryz.underlying3 rfl rfl rfl rfl rfl <| r_ad rfl rfl rfl (wadd64 (by omega)) ?_; rotate_left)
    refine r_sT Tryz.underlying9 rfl rfl (by omega) (by omega) rfl ?_
    rw [show (k + 0).toNat = k.toNat by omega]
    (refine r_as rfl rfl <| r_nx h47 <| c_sq fun k49 h49 => c_sq fun k51 h51 => c_rg <| r_mv rfl rfl <| r_mv rfl rfl ?_; rotate_left)
    refine WX.mem Mem.rot3 ?_
    refine WX.yield (m1 := J t) (m2 := [.blk b3 [.int .i64 0] 3, .blk b1 [.string ⟨#[c]⟩] 9, .blk b2 [.string r] 9]) rfl rfl rfl (hY t _ _ [.blk b3 [.int .i64 0] 3, .blk b1 [.string ⟨#[c]⟩] 9, .blk b2 [.string r] 9] hp) rfl rfl ?_
    rintro ⟨t', bb⟩ hR
    dsimp only at hR ⊢
    cases bb
    · (refine r_no rfl rfl rfl <| r_nx h51 <| c_cT rfl <| c_rt <| WE.then_r <| WE.blk_r <| WE.then_r <| WE.blk_r <| WE.then_r ?_; rotate_left)
      exact WE.ret0 t' rfl rfl rfl (hruns t' ⟨t', false, hR, rfl⟩) (fun w hw => Mem.tail (Mem.tail (Mem.tail (Mem.unrot3 w hw))))
    · refine WX.mem Mem.unrot3 ?_
      (refine r_no rfl rfl rfl <| r_nx h51 <| c_cF rfl <| c_sk <| WE.then_n h49 <| c_rg <| r_lb 2 Tryz.underlying9 rfl rfl rfl rfl rfl <| r_mv rfl rfl <| r_lb 1 Tryz.underlying9 rfl rfl rfl rfl rfl <| r_lS Tryz.underlying9 rfl rfl <| r_ad rfl rfl rfl (wadd64 (by omega)) ?_; rotate_left)
      refine r_sF Tryz.underlying9 rfl rfl (by omega) (by omega) rfl ?_
      rw [e1, show (k + ((1 : Nat) : Int)).toNat = k.toNat + 1 by omega]
      (refine r_st 2 (by kernel_rfl) rfl rfl rfl rfl rfl rfl rfl <| r_nl <| WE.blk_n ?_; rotate_left)
      have e2 : (r.extract (k.toNat + 1) r.size).size = _ := ByteArray.size_extract
      exact WE.back (r.extract (k.toNat + 1) r.size, t') ⟨hpre _ _ _ _ hp hR, by dsimp only; omega, fun t ht => hruns t ⟨t', true, hR, ht⟩⟩ (by dsimp only; omega) ⟨rfl, rfl, rfl, rfl, trivial⟩ Mem.keep
abbrev seqV (p : Nat × Nat × Nat) : Value := .func (.func 82) #[] #[.pointer (some ⟨p.1, 0, none⟩), .pointer (some ⟨p.2.1, 0, none⟩), .pointer (some ⟨p.2.2, 0, none⟩)]
abbrev seqM (s : ByteArray) (c : UInt8) (p : Nat × Nat × Nat) : List Res := [.blk p.2.2 [.int .i64 0] 3, .blk p.1 [.string ⟨#[c]⟩] 9, .blk p.2.1 [.string s] 9]
set_option maxRecDepth 100000 in
theorem splitSeq_spec (s : ByteArray) (c : UInt8) (w0 : World) (m0 : List Res) : Ct (α := Nat × Nat × Nat) Tryz.prog 50 [.string s, .string ⟨#[c]⟩, .int .i64 0] w0 [] m0 (fun _ => True) seqV (seqM s c) := by
  refine Ct.of Tryz.func50 rfl (by kernel_rfl) rfl ?_
  (refine c_sq fun k5 h5 => c_rg <| r_bx rfl rfl rfl (fun _ => ?_); refine r_bx rfl rfl rfl (fun _ => ?_); refine r_bx rfl rfl rfl (fun _ => ?_); refine r_as rfl rfl <| r_nx h5 <| c_sq fun k10 h10 => c_rg <| r_fn rfl rfl <| r_as rfl rfl <| r_nx h10 <| c_rt ?_; rotate_left)
  rename_i x1 x2 x3
  exact WE.ret1 (x2, x1, x3) rfl rfl rfl trivial Mem.keep
set_option maxRecDepth 100000 in
theorem SplitSeq_spec (s : ByteArray) (c : UInt8) (w0 : World) (m0 : List Res) : Ct (α := Nat × Nat × Nat) Tryz.prog 29 [.string s, .string ⟨#[c]⟩] w0 [] m0 (fun _ => True) seqV (seqM s c) := by
  refine Ct.of Tryz.func29 rfl (by kernel_rfl) rfl ?_
  (refine c_sq fun k5 h5 => c_rg <| r_as rfl rfl <| r_nx h5 <| c_sq fun k7 h7 => c_rg <| r_mv rfl rfl <| r_mv rfl rfl ?_; rotate_left)
  refine WX.call (m1 := []) (m2 := []) rfl rfl rfl (splitSeq_spec s c _ _) rfl rfl (fun b _ => ?_)
  (refine r_as rfl rfl <| r_nx h7 <| c_rt ?_; rotate_left)
  exact WE.ret1 b rfl rfl rfl trivial Mem.keep
end Go.Proofs.YtkggplnigjlegaaGreatDoor

/- strings.IndexFunc at rules's blank test, CutPrefix: the walks. -/
set_option linter.unusedVariables false
set_option linter.unusedSimpArgs false
namespace Go.Proofs.YtkggplnigjlegaaGreatDoor
open Go.RowKit Go.Gp

/-- The first byte that is 32 or less. -/
def lowL : List UInt8 → Int
  | [] => -1
  | x :: r => if x.toNat ≤ 32 then 0 else if lowL r = -1 then -1 else lowL r + 1
def wordL (l : List UInt8) : List UInt8 := l.takeWhile (fun x => decide (32 < x.toNat))
theorem lowL_no : ∀ l : List UInt8, (∀ x ∈ l, 32 < x.toNat) → lowL l = -1 ∧ wordL l = l
  | [], _ => ⟨rfl, rfl⟩
  | x :: r, h => by
    have h1 := h x (by simp)
    obtain ⟨h2, h3⟩ := lowL_no r (fun y hy => h y (by simp [hy]))
    refine ⟨?_, ?_⟩
    · rw [lowL, if_neg (by omega), if_pos h2]
    · unfold wordL at h3 ⊢
      rw [List.takeWhile_cons, if_pos (by simpa using h1), h3]
theorem lowL_at : ∀ (p : Nat) (l : List UInt8) (x : UInt8), (∀ y ∈ l.take p, 32 < y.toNat) → l[p]? = some x → x.toNat ≤ 32 → lowL l = p ∧ wordL l = l.take p
  | _, [], x, _, hx, _ => by simp at hx
  | 0, y :: r, x, _, hx, h => by
    obtain rfl : y = x := by simpa using hx
    refine ⟨by rw [lowL, if_pos h]; rfl, ?_⟩
    unfold wordL
    rw [List.takeWhile_cons, if_neg (by simpa using h)]
    rfl
  | p + 1, y :: r, x, hh, hx, h => by
    have h1 := hh y (by simp)
    obtain ⟨h2, h3⟩ := lowL_at p r x (fun z hz => hh z (by rw [List.take_succ_cons]; exact List.mem_cons_of_mem _ hz)) (by simpa using hx) h
    refine ⟨?_, ?_⟩
    · rw [lowL, if_neg (by omega), if_neg (by omega), h2]
      push_cast
      rfl
    · unfold wordL at h3 ⊢
      rw [List.takeWhile_cons, if_pos (by simpa using h1), h3]
      rfl
theorem lowL_bd (l : List UInt8) : -1 ≤ lowL l ∧ lowL l < l.length := by
  induction l with
  | nil => simp [lowL]
  | cons x r ih =>
    rw [lowL, List.length_cons]
    split
    · omega
    · split <;> omega
theorem mem_take_at {l : List UInt8} {n : Nat} {y : UInt8} (h : y ∈ l.take n) : ∃ j, j < n ∧ l[j]? = some y := by
  obtain ⟨j, hj⟩ := List.mem_iff_getElem?.1 h
  rw [List.getElem?_take] at hj
  split at hj
  · exact ⟨j, by omega, hj⟩
  · simp at hj
theorem at_mem_take {l : List UInt8} {n j : Nat} {y : UInt8} (h : j < n) (hy : l[j]? = some y) : y ∈ l.take n :=
  List.mem_iff_getElem?.2 ⟨j, by rw [List.getElem?_take, if_pos h]; exact hy⟩
/-- A line's word. -/
def wordS (s : ByteArray) : ByteArray := strOf (wordL s.data.toList)
theorem get_at (s : ByteArray) (p : Nat) (hp : p < s.size) : s.data.toList[p]? = some (s.get! p) := by
  have h : p < s.data.size := hp
  rw [Array.getElem?_toList, Array.getElem?_eq_getElem h]
  congr 1
  show _ = s.data[p]!
  exact (getElem!_pos s.data p h).symm
theorem dec_leaf (s : ByteArray) (p c wd : Nat) (hp : p < s.size) (h128 : 128 ≤ (s.get! p).toNat) (hc : 32 < c) (h1 : 1 ≤ wd) (hk : ∀ k, 0 < k → k < wd → p + k < s.size ∧ 128 ≤ (s.get! (p + k)).toNat) :
    ((s.get! p).toNat ≤ 32 → c ≤ 32) ∧ (32 < (s.get! p).toNat → 32 < c) ∧ 1 ≤ wd ∧ p + wd ≤ s.size ∧ ∀ j y, 0 < j → j < wd → s.data.toList[p + j]? = some y → 32 < y.toNat := by
  refine ⟨fun h => by omega, fun _ => hc, h1, ?_, ?_⟩
  · by_cases h : wd = 1
    · omega
    · have := (hk (wd - 1) (by omega) (by omega)).1
      omega
  · intro j y hj0 hj hy
    have h := hk j hj0 hj
    rw [get_at s _ h.1] at hy
    have : s.get! (p + j) = y := by simpa using hy
    rw [← this]
    omega
theorem dec_low (s : ByteArray) (p : Nat) (hp : p < s.size) : ∃ x : UInt8, s.data.toList[p]? = some x ∧ (x.toNat ≤ 32 → (Go.Utf8.decode s p).1 ≤ 32) ∧ (32 < x.toNat → 32 < (Go.Utf8.decode s p).1) ∧ 1 ≤ (Go.Utf8.decode s p).2 ∧ p + (Go.Utf8.decode s p).2 ≤ s.size ∧ ∀ j y, 0 < j → j < (Go.Utf8.decode s p).2 → s.data.toList[p + j]? = some y → 32 < y.toNat := by
  refine ⟨s.get! p, get_at s p hp, ?_⟩
  have hct : ∀ k, (decide (p + k < s.size) && (s.get! (p + k)).toNat / 64 == 2) = true → p + k < s.size ∧ 128 ≤ (s.get! (p + k)).toNat := by
    intro k h
    simp only [Bool.and_eq_true, decide_eq_true_eq, beq_iff_eq] at h
    exact ⟨h.1, by omega⟩
  unfold Go.Utf8.decode
  dsimp only
  simp only [Nat.add_zero]
  by_cases h0 : (s.get! p).toNat < 128
  · rw [if_pos h0]
    dsimp only
    exact ⟨fun h => h, fun h => h, by omega, by omega, fun j y h1 h2 => by omega⟩
  · rw [if_neg h0]
    have h0' : 128 ≤ (s.get! p).toNat := by omega
    have hE : ∀ (k : Nat), 0 < k → k < 1 → p + k < s.size ∧ 128 ≤ (s.get! (p + k)).toNat := fun k h1 h2 => by omega
    have hr : 32 < Go.Utf8.runeError := by decide
    split
    · rename_i h
      rw [Bool.and_eq_true] at h
      split
      · exact dec_leaf s p _ 2 hp h0' (by omega) (by omega) (fun k h1 h3 => by
          obtain rfl : k = 1 := by omega
          exact hct 1 h.2)
      · exact dec_leaf s p _ 1 hp h0' hr (by omega) hE
    · split
      · rename_i h
        rw [Bool.and_eq_true, Bool.and_eq_true] at h
        split
        · rename_i h2
          rw [Bool.and_eq_true, decide_eq_true_eq] at h2
          refine dec_leaf s p _ 3 hp h0' (by omega) (by omega) (fun k h1 h3 => ?_)
          rcases (by omega : k = 1 ∨ k = 2) with rfl | rfl
          · exact hct 1 h.1.2
          · exact hct 2 h.2
        · exact dec_leaf s p _ 1 hp h0' hr (by omega) hE
      · split
        · rename_i h
          rw [Bool.and_eq_true, Bool.and_eq_true, Bool.and_eq_true] at h
          split
          · rename_i h2
            rw [Bool.and_eq_true, decide_eq_true_eq] at h2
            refine dec_leaf s p _ 4 hp h0' (by omega) (by omega) (fun k h1 h3 => ?_)
            rcases (by omega : k = 1 ∨ k = 2 ∨ k = 3) with rfl | rfl | rfl
            · exact hct 1 h.1.1.2
            · exact hct 2 h.1.2
            · exact hct 3 h.2
          · exact dec_leaf s p _ 1 hp h0' hr (by omega) hE
        · exact dec_leaf s p _ 1 hp h0' hr (by omega) hE
set_option maxRecDepth 100000 in
theorem low_spec (c : Nat) (w0 : World) (m0 : List Res) : PureC Tryz.prog 31 [.int .i32 c] w0 m0 (.bool (decide (c ≤ 32))) := by
  by_cases h : c ≤ 32
  · rw [decide_eq_true h]
    refine Ct.of Tryz.func31 rfl (by kernel_rfl) rfl ?_
    (refine c_sq fun k5 h5 => c_rg <| r_as rfl rfl <| r_nx h5 <| c_sq fun k7 h7 => c_rg <| r_mv rfl rfl <| r_leT rfl rfl rfl (by omega) <| r_as rfl rfl <| r_nx h7 <| c_rt ?_; rotate_left)
    exact WE.ret1 () rfl rfl rfl trivial Mem.drop
  · rw [decide_eq_false h]
    refine Ct.of Tryz.func31 rfl (by kernel_rfl) rfl ?_
    (refine c_sq fun k5 h5 => c_rg <| r_as rfl rfl <| r_nx h5 <| c_sq fun k7 h7 => c_rg <| r_mv rfl rfl <| r_leF rfl rfl rfl (by omega) <| r_as rfl rfl <| r_nx h7 <| c_rt ?_; rotate_left)
    exact WE.ret1 () rfl rfl rfl trivial Mem.drop
set_option maxRecDepth 100000 in
theorem indexFuncS_spec (s : ByteArray) (hs : s.size ≤ 800000) (w0 : World) (m0 : List Res) : PureC Tryz.prog 51 [.string s, .func (.func 31) #[] #[], .bool true] w0 m0 (.int .i64 (lowL s.data.toList)) := by
  refine Ct.of Tryz.func51 rfl (by kernel_rfl) rfl ?_
  (refine c_sq fun k5 h5 => c_rg <| r_as rfl rfl <| r_nx h5 <| c_sq fun k7 h7 => c_sq fun k9 h9 => c_rg <| r_mv rfl rfl <| r_rg Tryz.underlying9 rfl rfl (fun _ => ?_); refine r_nx h9 <| c_bl ?_; rotate_left)
  rename_i it
  refine WC.loop (α := Nat) (fun p => [(0, .string s), (1, .func (.func 31) #[] #[]), (2, .bool true), (10, .pointer (some ⟨it, 0, none⟩))]) (fun p => [.obj it (.stringIter s p)])
    (fun p => p ≤ s.size ∧ ∀ y ∈ s.data.toList.take p, 32 < y.toNat) (fun p => s.size - p) 0 ⟨by omega, by simp⟩ ⟨rfl, rfl, rfl, rfl, trivial⟩ Mem.keep ?_
  rintro p ⟨hp, hall⟩
  (refine c_sq fun k15 h15 => c_rg ?_; rotate_left)
  by_cases hlt : p < s.size
  · obtain ⟨x, hx, hlo, hhi, hw1, hw2, hj⟩ := dec_low s p hlt
    cases hd : Go.Utf8.decode s p with
    | mk ch wd =>
    rw [hd] at hlo hhi hw1 hw2 hj
    dsimp only at hlo hhi hw1 hw2 hj
    refine r_nT 0 hlt hd rfl rfl rfl rfl ?_
    by_cases h32 : x.toNat ≤ 32
    · obtain ⟨h1, h2⟩ := lowL_at p _ x hall hx h32
      (refine r_ex rfl rfl rfl <| r_nx h15 <| c_sq fun k38 h38 => c_cT rfl <| c_sk <| WE.then_n h38 <| c_bl <| c_sq fun k40 h40 => c_rg <| r_ex rfl rfl rfl <| r_ex rfl rfl rfl <| r_as rfl rfl <| r_as rfl rfl <| r_nx h40 <| c_sq fun k42 h42 => c_rg <| r_mv rfl rfl <| r_mv rfl rfl ?_; rotate_left)
      refine WX.pure rfl rfl (low_spec ch _ _) rfl rfl ?_
      rw [decide_eq_true (hlo h32)]
      (refine r_mv rfl rfl <| r_bq Tryz.underlying4 rfl rfl rfl <| r_nx h42 <| c_cT rfl <| c_sq fun k44 h44 => c_rg <| r_mv rfl rfl <| r_as rfl rfl <| r_nx h44 <| c_rt <| WE.blk_r <| WE.then_r <| WE.blk_r <| WE.then_r ?_; rotate_left)
      exact WE.ret1 () rfl rfl (by rw [h1]; rfl) trivial Mem.drop
    · (refine r_ex rfl rfl rfl <| r_nx h15 <| c_sq fun k36 h36 => c_cT rfl <| c_sk <| WE.then_n h36 <| c_bl <| c_sq fun k38 h38 => c_rg <| r_ex rfl rfl rfl <| r_ex rfl rfl rfl <| r_as rfl rfl <| r_as rfl rfl <| r_nx h38 <| c_sq fun k40 h40 => c_rg <| r_mv rfl rfl <| r_mv rfl rfl ?_; rotate_left)
      refine WX.pure rfl rfl (low_spec ch _ _) rfl rfl ?_
      rw [decide_eq_false (by have := hhi (by omega); omega)]
      (refine r_mv rfl rfl <| r_bq Tryz.underlying4 rfl rfl rfl <| r_nx h40 <| c_cF rfl <| c_sk <| WE.blk_n ?_; rotate_left)
      exact WE.back (p + wd) ⟨hw2, fun y hy => by
        obtain ⟨j, hj1, hj2⟩ := mem_take_at hy
        rcases Nat.lt_trichotomy j p with h | h | h
        · exact hall y (at_mem_take h hj2)
        · subst h
          have : x = y := by rw [hx] at hj2; simpa using hj2
          subst this
          omega
        · exact hj (j - p) y (by omega) (by omega) (by rw [show p + (j - p) = j by omega]; exact hj2)⟩ (by omega) ⟨rfl, rfl, rfl, rfl, trivial⟩ Mem.keep
  · refine r_nF 0 hlt rfl rfl rfl ?_
    (refine r_ex rfl rfl rfl <| r_nx h15 <| c_sq fun k18 h18 => c_cF rfl <| c_ex <| WE.then_x <| WE.then_x <| WE.blk_x <| WE.then_n h7 <| c_sq fun k20 h20 => c_rg <| r_as rfl rfl <| r_nx h20 <| c_rt ?_; rotate_left)
    have hfull : s.data.toList.take p = s.data.toList := List.take_of_length_le (by rw [size_list]; omega)
    rw [hfull] at hall
    exact WE.ret1 () rfl rfl (by rw [(lowL_no _ hall).1]; rfl) trivial Mem.drop
set_option maxRecDepth 100000 in
theorem IndexFuncS_spec (s : ByteArray) (hs : s.size ≤ 800000) (w0 : World) (m0 : List Res) : PureC Tryz.prog 30 [.string s, .func (.func 31) #[] #[]] w0 m0 (.int .i64 (lowL s.data.toList)) := by
  refine Ct.of Tryz.func30 rfl (by kernel_rfl) rfl ?_
  (refine c_sq fun k5 h5 => c_rg <| r_as rfl rfl <| r_nx h5 <| c_sq fun k7 h7 => c_rg <| r_mv rfl rfl <| r_mv rfl rfl ?_; rotate_left)
  refine WX.pure rfl rfl (indexFuncS_spec s hs _ _) rfl rfl ?_
  (refine r_as rfl rfl <| r_nx h7 <| c_rt ?_; rotate_left)
  exact WE.ret1 () rfl rfl rfl trivial Mem.drop
set_option maxRecDepth 100000 in
theorem cutPrefix0_spec (s q : ByteArray) (hq : q.size ≤ 800000) (w0 : World) (m0 : List Res) : PureC Tryz.prog 33 [.string s, .string q] w0 m0 (.tuple #[.string (if preB s q then s.extract q.size s.size else s), .bool (preB s q)]) := by
  by_cases h : preB s q = true
  · have hle : q.size ≤ s.size := by unfold preB at h; simp only [Bool.and_eq_true, decide_eq_true_eq] at h; exact h.1
    simp only [h, if_true]
    refine Ct.of Tryz.func33 rfl (by kernel_rfl) rfl ?_
    (refine c_sq fun k8 h8 => c_rg <| r_as rfl rfl <| r_as rfl rfl <| r_nx h8 <| c_sq fun k10 h10 => c_sq fun k12 h12 => c_rg <| r_mv rfl rfl <| r_mv rfl rfl ?_; rotate_left)
    refine WX.pure rfl rfl (hasPrefix0_spec s q _ _) rfl rfl ?_
    rw [h]
    (refine r_no rfl rfl rfl <| r_nx h12 <| c_cF rfl <| c_sk <| WE.then_n h10 <| c_sq fun k14 h14 => c_rg <| r_mv rfl rfl <| r_mv rfl rfl <| r_lS Tryz.underlying9 rfl rfl ?_; rotate_left)
    refine r_sF Tryz.underlying9 rfl rfl (by omega) (by omega) rfl ?_
    rw [Int.toNat_natCast]
    (refine r_as rfl rfl <| r_as rfl rfl <| r_nx h14 <| c_rt ?_; rotate_left)
    exact WE.ret2 () rfl rfl rfl rfl rfl trivial Mem.drop
  · rw [Bool.not_eq_true] at h
    simp only [h, Bool.false_eq_true, if_false]
    refine Ct.of Tryz.func33 rfl (by kernel_rfl) rfl ?_
    (refine c_sq fun k8 h8 => c_rg <| r_as rfl rfl <| r_as rfl rfl <| r_nx h8 <| c_sq fun k10 h10 => c_sq fun k12 h12 => c_rg <| r_mv rfl rfl <| r_mv rfl rfl ?_; rotate_left)
    refine WX.pure rfl rfl (hasPrefix0_spec s q _ _) rfl rfl ?_
    rw [h]
    (refine r_no rfl rfl rfl <| r_nx h12 <| c_cT rfl <| c_sq fun k14 h14 => c_rg <| r_mv rfl rfl <| r_as rfl rfl <| r_as rfl rfl <| r_nx h14 <| c_rt <| WE.then_r ?_; rotate_left)
    exact WE.ret2 () rfl rfl rfl rfl rfl trivial Mem.drop
set_option maxRecDepth 100000 in
theorem cutPrefix_spec (s q : ByteArray) (hq : q.size ≤ 800000) (w0 : World) (m0 : List Res) : PureC Tryz.prog 18 [.string s, .string q] w0 m0 (.tuple #[.string (if preB s q then s.extract q.size s.size else s), .bool (preB s q)]) := by
  refine Ct.of Tryz.func18 rfl (by kernel_rfl) rfl ?_
  (refine c_sq fun k6 h6 => c_rg <| r_as rfl rfl <| r_as rfl rfl <| r_nx h6 <| c_sq fun k8 h8 => c_rg <| r_mv rfl rfl <| r_mv rfl rfl ?_; rotate_left)
  refine WX.pure rfl rfl (cutPrefix0_spec s q hq _ _) rfl rfl ?_
  (refine r_ex rfl rfl rfl <| r_ex rfl rfl rfl <| r_as rfl rfl <| r_as rfl rfl <| r_nx h8 <| c_rt ?_; rotate_left)
  exact WE.ret2 () rfl rfl rfl rfl rfl trivial Mem.drop
end Go.Proofs.YtkggplnigjlegaaGreatDoor
