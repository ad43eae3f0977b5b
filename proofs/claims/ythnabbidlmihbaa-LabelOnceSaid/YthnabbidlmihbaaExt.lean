/- Calls of the model's entries that read memory, make a block, or write one. -/
import Derived.Test.YthnabbidlmihbaaSep
set_option linter.unusedVariables false
namespace Go.Gp
open Go.RowKit
section
variable {C : Cx} {Q : Po} {l : List (Nat × Value)} {m : List Res} {ops : Array Oper} {rest : List Oper} {ty : TypeId} {pos : String} {af : Array Edge} {g : Option (Nat × Bool)} {b : Bool} {d : Nat} {v u : Value} {x : Operand}

theorem exec_call {f : FuncId} {fo : Operand} {xs : List Operand} {vs : List Value} {ts : Array TypeId} {dd : Option Nat} (hfo : opv l fo = some (.func (.func f) #[] #[])) (hxs : opvs l xs = some vs) {ev : Operand → Value} (hev : ∀ x u, opv l x = some u → ev x = u) {P : Program} {w w' : World} {v : Value}
    (hr : (callFunc f vs.toArray).run P w = .ok (.value v) w') : (execOp ev ⟨dd, .call { callee := .value fo, args := xs.toArray, argTypes := ts }, ty, pos, af, g⟩).run P w = .ok (.value v) w' := by
  have h1 := opvs_map hev xs vs hxs
  simp [execOp, resolve, hev fo _ hfo, Deferred.ofValue, invoke, h1, hr]
/-- It reads memory. -/
theorem r_xm {f : FuncId} {fo : Operand} {xs : List Operand} {vs : List Value} {ts : Array TypeId} (hfo : opv l fo = some (.func (.func f) #[] #[])) (hxs : opvs l xs = some vs) (hr : ∀ w, Mem C.w0 (m ++ C.m0) w → (callFunc f vs.toArray).run C.P w = .ok (.value v) w) (h : okk ops l g d C.n = true) (c : WX b C Q ops rest ((d, v) :: l) m) :
    WX b C Q ops (⟨some d, .call { callee := .value fo, args := xs.toArray, argTypes := ts }, ty, pos, af, g⟩ :: rest) l m :=
  WX.q (fun ev hev w hw => exec_call hfo hxs hev (hr w hw)) rfl (okk_1 h) (okk_2 h) rfl c
/-- It makes one new block, and gives a value that names it. -/
theorem r_xa {f : FuncId} {fo : Operand} {xs : List Operand} {vs : List Value} {ts : Array TypeId} {cs : List Value} {e : TypeId} {val : Nat → Value} (hfo : opv l fo = some (.func (.func f) #[] #[])) (hxs : opvs l xs = some vs) (hr : ∀ w, (callFunc f vs.toArray).run C.P w = .ok (.value (val w.heap.size)) (w.alloc (.cells cs.toArray e))) (h : okk ops l g d C.n = true)
    (c : ∀ n : Nat, WX false C Q ops rest ((d, val n) :: l) (.blk n cs e :: m)) :
    WX false C Q ops (⟨some d, .call { callee := .value fo, args := xs.toArray, argTypes := ts }, ty, pos, af, g⟩ :: rest) l m :=
  WX.ev (α := Nat) (φ := fun _ => True) (v := val) (m' := fun n => .blk n cs e :: m) (fun ev hev w hw => ⟨w.heap.size, _, trivial, exec_call hfo hxs hev (hr w), hw.add (World.grownBy_alloc w _ none) ⟨hw.bnd, heap_alloc_new w _⟩ (fun k hk => by simp [Res.block] at hk; omega)⟩) rfl (okk_1 h) (okk_2 h) rfl (fun n _ => c n)
/-- It writes one cell of a block. -/
theorem r_xs (i : Nat) {f : FuncId} {fo : Operand} {xs : List Operand} {vs : List Value} {ts : Array TypeId} {bb o : Nat} {cs : List Value} {e : TypeId} {u : Value} {m' : List Res} (hfo : opv l fo = some (.func (.func f) #[] #[])) (hxs : opvs l xs = some vs) (hi : m[i]? = some (.blk bb cs e)) (ho : o < cs.length) (hm : m.set i (.blk bb (cs.set o u) e) = m')
    (hr : ∀ w, Mem C.w0 (m ++ C.m0) w → (callFunc f vs.toArray).run C.P w = .ok (.value v) (w.setCell ⟨bb, o, none⟩ u)) (h : okk ops l g d C.n = true) (c : WX false C Q ops rest ((d, v) :: l) m') :
    WX false C Q ops (⟨some d, .call { callee := .value fo, args := xs.toArray, argTypes := ts }, ty, pos, af, g⟩ :: rest) l m :=
  WX.ev (α := Unit) (φ := fun _ => True) (v := fun _ => v) (m' := fun _ => m') (fun ev hev w hw => by
    have hlt : i < m.length := (List.getElem?_eq_some_iff.1 hi).1
    have hi' : (m ++ C.m0)[i]? = some (.blk bb cs e) := by rw [List.getElem?_append_left hlt]; exact hi
    have h := hw.all i _ hi'
    have hset := setCell_eq_setRow w bb o cs.toArray e (0, 0) u h.2
    refine ⟨(), _, trivial, exec_call hfo hxs hev (hr w hw), ?_⟩
    rw [hset, ← hm, ← List.set_append_left _ _ hlt]
    refine hw.upd hi' (grownBy_setRow _) ⟨h.1, ?_⟩ (fun k hk => .inl hk)
    have := setRow_heap w bb cs.toArray (cs.toArray.setIfInBounds o u) e (0, 0) h.2
    simpa using this) rfl (okk_1 h) (okk_2 h) rfl (fun _ _ => c)
/-- What can be read, and what a block holds, in a world. -/
theorem Rd.get {w0 w : World} {m : List Res} {bb : Nat} {xs : List Value} {o : Nat} {v : Value} (h : Rd w0 m (some ⟨bb, 0, none⟩) xs) (hw : Mem w0 m w) (hv : xs[o]? = some v) : w.cell? ⟨bb, o, none⟩ = some v := by
  unfold Rd at h
  obtain ⟨a, ha, hc⟩ := h w hw o v hv
  obtain rfl := Option.some.inj ha
  by_cases ho : o = 0
  · subst ho; simpa [Addr.add] using hc
  · simpa [Addr.add, ho] using hc
theorem Mem.cellAt {w0 w : World} {m : List Res} {bb : Nat} {cs : List Value} {e : TypeId} (hw : Mem w0 m w) (i : Nat) (hi : m[i]? = some (.blk bb cs e)) {o : Nat} (ho : o < cs.length) : w.cell? ⟨bb, o, none⟩ = some cs[o] ∧ w.frozen? ⟨bb, o, none⟩ = false := by
  have h := hw.all i _ hi
  exact ⟨by rw [cell_of_row w bb o cs.toArray e (0, 0) h.2]; simp [ho], frozen_of_row w bb o cs.toArray e h.2⟩
/-- Memory put in another order, or some of it given up. -/
theorem WX.mem {m' : List Res} (hM : ∀ w, Mem C.w0 (m ++ C.m0) w → Mem C.w0 (m' ++ C.m0) w) (h : WX false C Q ops rest l m') : WX false C Q ops rest l m := by
  unfold WX WL at h ⊢
  exact fun a w hs => h a w ⟨hs.1, hM w hs.2⟩
end
end Go.Gp
