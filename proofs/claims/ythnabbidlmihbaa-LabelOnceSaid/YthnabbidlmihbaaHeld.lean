/- Regions that draw their order and hold operations that turn the world: what yields the same in every world that keeps some memory is taken first, what turns the world comes up alone. -/
import Derived.Test.YthnabbidlmihbaaExt
import Derived.OrdersHeld
import Derived.StillTail
set_option linter.unusedVariables false
namespace Go.Gp
open Go.RowKit

/-- Q, but false at a panic. -/
def NP (Q : Po) : Po
  | .panic _, _, _ => False
  | e, a, w => Q e a w
theorem NP.imp {Q : Po} : ∀ (e : Exit) (a : Act) (w : World), NP Q e a w → Q e a w := fun e a w h => by
  cases e <;> first | exact h | exact (h : False).elim

/-- The first k have come up. -/
def fk (n k : Nat) : Array Bool := ((List.range n).map fun i => Nat.blt i k).toArray
def WH (mk : List Res) (C : Cx) (Q : Po) (ops : Array Oper) (k : Nat) (l : List (Nat × Value)) (m : List Res) : Prop :=
  ∀ a w, C.St l m a w → wpAnyH C.P .any ops (NP Q) (fun w => Mem C.w0 (mk ++ C.m0) w) (ops.size - k) (fk ops.size k) a w

/-- Number k may be taken first. -/
def takeB (ops : Array Oper) (k : Nat) : Bool :=
  Region.noSelect ops && Nat.blt k ops.size && Region.free .any ops (fk ops.size k) k && (Region.ready .any ops (fk ops.size k)).contains k && ((fk ops.size k).setIfInBounds k true == fk ops.size (k + 1))
/-- Number k alone may come up. -/
def soleB (ops : Array Oper) (k : Nat) : Bool :=
  Nat.blt k ops.size && (Region.ready .any ops (fk ops.size k) == [k]) && ((fk ops.size k).setIfInBounds k true == fk ops.size (k + 1))

section
variable {mk : List Res} {C : Cx} {Q : Po} {l : List (Nat × Value)} {m : List Res} {ops : Array Oper} {k : Nat}

theorem WC.held {i : Nat} {ops : List Oper} (mk : List Res) (hr : C.r = none) (hm : C.P.follows .mixedOrders = true) (h : WH mk C Q ops.toArray 0 l m) : WC C Q (.region i ops.toArray true) l m := by
  unfold WC
  intro a w hs
  have e : FW C.r = Fence.wide := by rw [hr]; rfl
  rw [e]
  refine wpIn_wide.2 (Code.wp_mono NP.imp (wp_region_held (S := fun w => Mem C.w0 (mk ++ C.m0) w) hm ?_))
  have h' := h a { w with drawn := w.drawn + 1 } ⟨hs.1, hs.2.drew⟩
  have e2 : fk ops.toArray.size 0 = Array.replicate ops.toArray.size false := by
    apply Array.ext
    · simp [fk]
    · intro j h1 h2
      simp [fk]
      rfl
  rw [Nat.sub_zero, e2] at h'
  exact h'

theorem WH.take {o : Oper} {v : Value} {d : Nat} (hi : ops[k]? = some o) (hB : takeB ops k = true) (hv : Qv C l mk o v) (hd : o.dst = some d) (hdn : Nat.blt d C.n = true) (hg : wants ops l o.guard = some true)
    (hS : ∀ w, Mem C.w0 (m ++ C.m0) w → Mem C.w0 (mk ++ C.m0) w) (h : WH mk C Q ops (k + 1) ((d, v) :: l) m) : WH mk C Q ops k l m := by
  intro a w hs
  simp only [takeB, Bool.and_eq_true, beq_iff_eq] at hB
  obtain ⟨⟨⟨⟨h1, h2⟩, h3⟩, h4⟩, h5⟩ := hB
  have hlt : k < ops.size := by simpa using h2
  rw [show ops.size - k = ops.size - (k + 1) + 1 by omega]
  refine wpAnyH_take hi h1 h3 h4 (fun _ _ _ h => h) (v := v) (.inl ⟨wanted_of hs.1 hg, fun w' hw' => hv a.eval (ev_of hs.1) w' hw'⟩) (hS w hs.2) ?_
  rw [h5, hd]
  exact h _ w ⟨hs.1.put d v hdn, hs.2⟩
theorem WH.pass {o : Oper} {d : Nat} (hi : ops[k]? = some o) (hB : takeB ops k = true) (hd : o.dst = some d) (hdn : Nat.blt d C.n = true) (hg : wants ops l o.guard = some false)
    (hS : ∀ w, Mem C.w0 (m ++ C.m0) w → Mem C.w0 (mk ++ C.m0) w) (h : WH mk C Q ops (k + 1) ((d, undef) :: l) m) : WH mk C Q ops k l m := by
  intro a w hs
  simp only [takeB, Bool.and_eq_true, beq_iff_eq] at hB
  obtain ⟨⟨⟨⟨h1, h2⟩, h3⟩, h4⟩, h5⟩ := hB
  have hlt : k < ops.size := by simpa using h2
  rw [show ops.size - k = ops.size - (k + 1) + 1 by omega]
  refine wpAnyH_take hi h1 h3 h4 (fun _ _ _ h => h) (v := undef) (.inr ⟨wanted_of hs.1 hg, rfl⟩) (hS w hs.2) ?_
  rw [h5, hd]
  exact h _ w ⟨hs.1.put d undef hdn, hs.2⟩

theorem WH.sole {o : Oper} (hi : ops[k]? = some o) (hB : soleB ops k = true) (hg : wants ops l o.guard = some true)
    (h : ∀ a w, C.St l m a w → o.wp C.P a w (fun a' w' => Mem C.w0 (mk ++ C.m0) w' ∧ wpAnyH C.P .any ops (NP Q) (fun w => Mem C.w0 (mk ++ C.m0) w) (ops.size - (k + 1)) (fk ops.size (k + 1)) a' w') (NP Q)) : WH mk C Q ops k l m := by
  intro a w hs
  simp only [soleB, Bool.and_eq_true, beq_iff_eq] at hB
  obtain ⟨⟨h2, h3⟩, h5⟩ := hB
  have hlt : k < ops.size := by simpa using h2
  rw [show ops.size - k = ops.size - (k + 1) + 1 by omega]
  refine wpAnyH_all h3 (by simp) (fun i hi' => ?_)
  rw [List.mem_singleton] at hi'
  subst hi'
  rw [h5]
  unfold wpOp
  simp only [hi, wanted_of hs.1 hg, if_true]
  exact .inl (h a w hs)
theorem WH.ev {α : Type} {o : Oper} {φ : α → Prop} {v : α → Value} {m' : α → List Res} {d : Nat} (hi : ops[k]? = some o) (hB : soleB ops k = true) (hv : Ev C l m o φ v m') (hd : o.dst = some d) (hdn : Nat.blt d C.n = true) (hg : wants ops l o.guard = some true)
    (hS : ∀ x w, Mem C.w0 (m' x ++ C.m0) w → Mem C.w0 (mk ++ C.m0) w) (h : ∀ x, φ x → WH mk C Q ops (k + 1) ((d, v x) :: l) (m' x)) : WH mk C Q ops k l m :=
  WH.sole hi hB hg fun a w hs => by
    obtain ⟨x, w', hx, hr, hm⟩ := hv a.eval (ev_of hs.1) w hs.2
    unfold Oper.wp
    rw [hr, Oper.upon_value, hd]
    exact ⟨hS x _ hm, h x hx _ _ ⟨hs.1.put d _ hdn, hm⟩⟩
theorem WH.st {o : Oper} {m' : List Res} (hi : ops[k]? = some o) (hB : soleB ops k = true) (hv : Sv C l m o m') (hd : o.dst = none) (hg : wants ops l o.guard = some true)
    (hS : ∀ w, Mem C.w0 (m' ++ C.m0) w → Mem C.w0 (mk ++ C.m0) w) (h : WH mk C Q ops (k + 1) l m') : WH mk C Q ops k l m :=
  WH.sole hi hB hg fun a w hs => by
    obtain ⟨w', hr, hm⟩ := hv a.eval (ev_of hs.1) w hs.2
    unfold Oper.wp
    rw [hr, Oper.upon_skip, hd]
    exact ⟨hS _ hm, h _ _ ⟨hs.1, hm⟩⟩
theorem WH.qv {o : Oper} {v : Value} {d : Nat} (hi : ops[k]? = some o) (hB : soleB ops k = true) (hv : Qv C l m o v) (hd : o.dst = some d) (hdn : Nat.blt d C.n = true) (hg : wants ops l o.guard = some true)
    (hS : ∀ w, Mem C.w0 (m ++ C.m0) w → Mem C.w0 (mk ++ C.m0) w) (h : WH mk C Q ops (k + 1) ((d, v) :: l) m) : WH mk C Q ops k l m :=
  WH.ev (α := Unit) (φ := fun _ => True) (v := fun _ => v) (m' := fun _ => m) hi hB (fun ev hev w hw => ⟨(), w, trivial, hv ev hev w hw, hw⟩) hd hdn hg (fun _ => hS) (fun _ _ => h)
theorem WH.call {α : Type} {φ : α → Prop} {val : α → Value} {M : α → List Res} {d : Nat} {ty : TypeId} {pos : String} {af : Array Edge} {g : Option (Nat × Bool)} {fo : Operand} {xs : List Operand} {ts : Array TypeId} {f : FuncId} {vs cs : List Value} {m1 m2 : List Res}
    (hi : ops[k]? = some ⟨some d, .call { callee := .value fo, args := xs.toArray, argTypes := ts }, ty, pos, af, g⟩) (hB : soleB ops k = true)
    (hfo : opv l fo = some (.func (.func f) #[] cs.toArray)) (hxs : opvs l xs = some vs) (hm : m = m1 ++ m2) (hsp : Ct C.P f (vs ++ cs) C.w0 m1 (m2 ++ C.m0) φ val M) (hdn : Nat.blt d C.n = true) (hg : wants ops l g = some true)
    (hS : ∀ x w, Mem C.w0 (M x ++ m2 ++ C.m0) w → Mem C.w0 (mk ++ C.m0) w) (h : ∀ x, φ x → WH mk C Q ops (k + 1) ((d, val x) :: l) (M x ++ m2)) : WH mk C Q ops k l m :=
  WH.sole hi hB hg fun a w hs => by
    unfold Ct at hsp
    have hrun := run_call hsp.1 (ev := a.eval) (d := some d) (ty := ty) (pos := pos) (af := af) (g := g) (ts := ts) (ev_of hs.1 _ _ hfo) (opvs_map (ev_of hs.1) xs vs hxs) w
    unfold Oper.wp
    rw [hrun, Oper.upon_enter]
    refine (hsp.2 w (by rw [← List.append_assoc, ← hm]; exact hs.2)).mono fun e w' hh => ?_
    unfold sp at hh
    obtain ⟨x, hx, rfl, hmem⟩ := hh
    have hmem' : Mem C.w0 (M x ++ m2 ++ C.m0) w' := by rw [List.append_assoc]; exact hmem
    exact ⟨hS x _ hmem', h x hx _ _ ⟨hs.1.put d _ hdn, hmem'⟩⟩
theorem WH.nil (hk : k = ops.size) (hr : Region.ready .any ops (fk ops.size k) = []) (h : WE C Q .normal l m) : WH mk C Q ops k l m := by
  intro a w hs
  unfold WE at h
  exact wpAnyH_done (Q := NP Q) hr (show NP Q .normal a w from h a w hs) _
/-- A new slice. -/
theorem WH.bo {t e : TypeId} {d n : Nat} {ty : TypeId} {pos : String} {af : Array Edge} {g : Option (Nat × Bool)} {ps : List (Nat × Operand)} {cs : List Value} (hi : ops[k]? = some ⟨some d, .buildSlice t n ps.toArray, ty, pos, af, g⟩) (hB : soleB ops k = true) (ht : C.P.underlying t = some (.slice e)) (hps : opds l 0 ps = some cs)
    (hr : ∀ w, (Instr.buildSlice t n (numbered 0 cs).toArray).run C.P w = .ok (.slice (some ⟨w.heap.size, 0, none⟩) n n) (w.alloc (.cells cs.toArray e))) (hl : Nat.beq cs.length n = true) (hn : Nat.ble n 1000000 = true) (hdn : Nat.blt d C.n = true) (hg : wants ops l g = some true)
    (hS : ∀ a w, Mem C.w0 (.own (some ⟨a, 0, none⟩) n n cs e 1 :: m ++ C.m0) w → Mem C.w0 (mk ++ C.m0) w) (h : ∀ a : Nat, WH mk C Q ops (k + 1) ((d, .slice (some ⟨a, 0, none⟩) n n) :: l) (.own (some ⟨a, 0, none⟩) n n cs e 1 :: m)) : WH mk C Q ops k l m :=
  WH.ev hi hB (Ev.buildOwn (opps_of ps 0 cs hps) hr (by have := Nat.eq_of_beq_eq_true hl; omega) (small_max hn)) rfl hdn hg hS (fun a _ => h a)
/-- An append onto a slice that the call owns. -/
theorem WH.am (i : Nat) {α : Type} {f : α → Value} {xs ys : List α} {z : Value} {by_ : Nat} {d : Nat} {t ty : TypeId} {pos : String} {af : Array Edge} {g : Option (Nat × Bool)} {s' x : Operand} {e : TypeId} {A B : Option Addr} {c c' n : Nat} (hop : ops[k]? = some ⟨some d, .call { callee := .builtin .append, args := #[s', x], argTypes := #[t, t] }, ty, pos, af, g⟩) (hB : soleB ops k = true)
    (ht : C.P.underlying t = some (.slice e)) (hinf : (C.P.info? e).map (fun i => (i.zero, i.size, i.bytes)) = some (some z, 1, by_)) (hzc : z.cells.size = 1)
    (hs : opv l s' = some (.slice A xs.length c)) (hx : opv l x = some (.slice B n c')) (hm : m[i]? = some (.own A c xs.length (xs.map f) e 1)) (hr : Rd C.w0 (m ++ C.m0) B (ys.map f)) (hk : ys.length = n) (h1 : ∀ a, (f a).oneCell' = true) (hlen : (xs.length + n) * (by_ + 1) ≤ 140737488355328) (hdn : Nat.blt d C.n = true) (hg : wants ops l g = some true)
    (hS : ∀ (p : Option Addr × Nat) w, Mem C.w0 (m.set i (.own p.1 p.2 (xs ++ ys).length ((xs ++ ys).map f) e 1) ++ C.m0) w → Mem C.w0 (mk ++ C.m0) w)
    (cc : ∀ p : Option Addr × Nat, WH mk C Q ops (k + 1) ((d, .slice p.1 (xs ++ ys).length p.2) :: l) (m.set i (.own p.1 p.2 (xs ++ ys).length ((xs ++ ys).map f) e 1))) : WH mk C Q ops k l m := by
  cases hq : C.P.info? e with
  | none => simp [hq] at hinf
  | some inf =>
    have h3 : inf.zero = some z ∧ inf.size = 1 ∧ inf.bytes = by_ := by simpa [hq] using hinf
    have hb1 : (xs.length + n) * by_ ≤ (xs.length + n) * (by_ + 1) := Nat.mul_le_mul_left _ (by omega)
    have hb2 : (xs.length + n) * 1 ≤ (xs.length + n) * (by_ + 1) := Nat.mul_le_mul_left _ (by omega)
    have e1 : (xs ++ ys).length = xs.length + n := by rw [List.length_append, hk]
    refine WH.ev hop hB (Ev.append (ys := ys.map f) ht hq h3.1 h3.2.1 h3.2.2 hzc hs hx hm hr (by simpa using hk) (by simpa using fun a _ => h1 a) (by unfold maxLen; omega) (by omega)) rfl hdn hg (fun p w hw => ?_) (fun p hp => ?_)
    · refine hS p w ?_
      rw [e1, List.map_append]
      exact hw
    · have := cc p
      rw [e1, List.map_append] at this
      exact this
end

/-! ### A region that draws its order, whose last operations alone turn the world -/
def WT (C : Cx) (Q : Po) (ops : Array Oper) (rest : List Oper) (l : List (Nat × Value)) (m : List Res) : Prop := ∀ a w, C.St l m a w → wpList C.P ops Q rest a w
def WS (C : Cx) (Q : Po) (ops : Array Oper) (tail rest : List Oper) (l : List (Nat × Value)) (m : List Res) : Prop := ∀ a w, C.St l m a w → wpStill C.P ops w (fun a' => wpList C.P ops Q tail a' w) rest a
section
variable {C : Cx} {Q : Po} {l : List (Nat × Value)} {m : List Res} {ops : Array Oper} {rest tail : List Oper}
theorem WC.stail {i : Nat} {ops : List Oper} (n : Nat) (hr : C.r = none) (hm : C.P.follows .mixedOrders = true) (hB : Region.lexTailB .any ops.toArray n = true) (h : WS C Q ops.toArray (ops.drop n) (ops.take n) l m) : WC C Q (.region i ops.toArray true) l m := by
  unfold WC
  intro a w hs
  have e : FW C.r = Fence.wide := by rw [hr]; rfl
  rw [e]
  exact wpIn_wide.2 (wp_region_still_tail n hm hB (h a { w with drawn := w.drawn + 1 } ⟨hs.1, hs.2.drew⟩))
theorem WS.q {o : Oper} {v : Value} {d : Nat} (hv : Qv C l m o v) (hd : o.dst = some d) (hdn : Nat.blt d C.n = true) (hg : wants ops l o.guard = some true) (k : WS C Q ops tail rest ((d, v) :: l) m) : WS C Q ops tail (o :: rest) l m := by
  intro a w hs
  unfold wpStill
  rw [if_pos (wanted_of hs.1 hg)]
  unfold Oper.still
  rw [hv a.eval (ev_of hs.1) w hs.2]
  have := k _ w ⟨hs.1.put d v hdn, hs.2⟩
  rw [← hd] at this
  exact ⟨rfl, this⟩
theorem WS.nil (k : WT C Q ops tail l m) : WS C Q ops tail [] l m := fun a w hs => k a w hs
theorem WT.ev {α : Type} {o : Oper} {φ : α → Prop} {v : α → Value} {m' : α → List Res} {d : Nat} (hv : Ev C l m o φ v m') (hd : o.dst = some d) (hdn : Nat.blt d C.n = true) (hg : wants ops l o.guard = some true) (k : ∀ x, φ x → WT C Q ops rest ((d, v x) :: l) (m' x)) : WT C Q ops (o :: rest) l m := by
  intro a w hs
  obtain ⟨x, w', hx, hr, hm⟩ := hv a.eval (ev_of hs.1) w hs.2
  unfold wpList
  rw [if_pos (wanted_of hs.1 hg)]
  refine .inl ?_
  unfold Oper.wp
  rw [hr, Oper.upon_value, hd]
  exact k x hx _ _ ⟨hs.1.put d _ hdn, hm⟩
theorem WT.q {o : Oper} {v : Value} {d : Nat} (hv : Qv C l m o v) (hd : o.dst = some d) (hdn : Nat.blt d C.n = true) (hg : wants ops l o.guard = some true) (k : WT C Q ops rest ((d, v) :: l) m) : WT C Q ops (o :: rest) l m :=
  WT.ev (α := Unit) (φ := fun _ => True) (v := fun _ => v) (m' := fun _ => m) (fun ev hev w hw => ⟨(), w, trivial, hv ev hev w hw, hw⟩) hd hdn hg (fun _ _ => k)
theorem WT.nil (k : WE C Q .normal l m) : WT C Q ops [] l m := by
  intro a w hs
  unfold WE at k
  exact k a w hs
end
end Go.Gp
