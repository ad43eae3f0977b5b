/- Regions that draw their order, where operations are taken in an order of the prover's. -/
import Derived.Test.YthnabbidlmihbaaHeld
set_option linter.unusedVariables false
namespace Go.Gp
open Go.RowKit
/-- Those of a list have come up. -/
def fl (n : Nat) (L : List Nat) : Array Bool := ((List.range n).map fun i => L.elem i).toArray
def WG (mk : List Res) (C : Cx) (Q : Po) (ops : Array Oper) (L : List Nat) (l : List (Nat × Value)) (m : List Res) : Prop :=
  ∀ a w, C.St l m a w → wpAnyH C.P .any ops (NP Q) (fun w => Mem C.w0 (mk ++ C.m0) w) (ops.size - L.length) (fl ops.size L) a w

/-- Number k may be taken first. -/
def takeBL (ops : Array Oper) (L : List Nat) (k : Nat) : Bool :=
  Region.noSelect ops && (Nat.blt k ops.size && Nat.blt L.length ops.size) && Region.free .any ops (fl ops.size L) k && (Region.ready .any ops (fl ops.size L)).contains k && ((fl ops.size L).setIfInBounds k true == fl ops.size (k :: L))
/-- Number k alone may come up. -/
def soleBL (ops : Array Oper) (L : List Nat) (k : Nat) : Bool :=
  (Nat.blt k ops.size && Nat.blt L.length ops.size) && (Region.ready .any ops (fl ops.size L) == [k]) && ((fl ops.size L).setIfInBounds k true == fl ops.size (k :: L))

section
variable {mk : List Res} {C : Cx} {Q : Po} {l : List (Nat × Value)} {m : List Res} {ops : Array Oper} {L : List Nat} {k : Nat}

theorem WC.heldL {i : Nat} {ops : List Oper} (mk : List Res) (hr : C.r = none) (hm : C.P.follows .mixedOrders = true) (h : WG mk C Q ops.toArray [] l m) : WC C Q (.region i ops.toArray true) l m := by
  unfold WC
  intro a w hs
  have e : FW C.r = Fence.wide := by rw [hr]; rfl
  rw [e]
  refine wpIn_wide.2 (Code.wp_mono NP.imp (wp_region_held (S := fun w => Mem C.w0 (mk ++ C.m0) w) hm ?_))
  have h' := h a { w with drawn := w.drawn + 1 } ⟨hs.1, hs.2.drew⟩
  have e2 : fl ops.toArray.size [] = Array.replicate ops.toArray.size false := by
    apply Array.ext
    · simp [fl]
    · intro j h1 h2
      simp [fl]
  rw [show ops.toArray.size - ([] : List Nat).length = ops.toArray.size from rfl, e2] at h'
  exact h'

theorem WG.take {o : Oper} {v : Value} {d : Nat} (hi : ops[k]? = some o) (hB : takeBL ops L k = true) (hv : Qv C l mk o v) (hd : o.dst = some d) (hdn : Nat.blt d C.n = true) (hg : wants ops l o.guard = some true)
    (hS : ∀ w, Mem C.w0 (m ++ C.m0) w → Mem C.w0 (mk ++ C.m0) w) (h : WG mk C Q ops (k :: L) ((d, v) :: l) m) : WG mk C Q ops L l m := by
  intro a w hs
  simp only [takeBL, Bool.and_eq_true, beq_iff_eq] at hB
  obtain ⟨⟨⟨⟨h1, h2⟩, h3⟩, h4⟩, h5⟩ := hB
  have hlt : k < ops.size ∧ L.length < ops.size := by simpa using h2
  rw [show ops.size - L.length = ops.size - (k :: L).length + 1 by rw [List.length_cons]; omega]
  refine wpAnyH_take hi h1 h3 h4 (fun _ _ _ h => h) (v := v) (.inl ⟨wanted_of hs.1 hg, fun w' hw' => hv a.eval (ev_of hs.1) w' hw'⟩) (hS w hs.2) ?_
  rw [h5, hd]
  exact h _ w ⟨hs.1.put d v hdn, hs.2⟩
theorem WG.pass {o : Oper} {d : Nat} (hi : ops[k]? = some o) (hB : takeBL ops L k = true) (hd : o.dst = some d) (hdn : Nat.blt d C.n = true) (hg : wants ops l o.guard = some false)
    (hS : ∀ w, Mem C.w0 (m ++ C.m0) w → Mem C.w0 (mk ++ C.m0) w) (h : WG mk C Q ops (k :: L) ((d, undef) :: l) m) : WG mk C Q ops L l m := by
  intro a w hs
  simp only [takeBL, Bool.and_eq_true, beq_iff_eq] at hB
  obtain ⟨⟨⟨⟨h1, h2⟩, h3⟩, h4⟩, h5⟩ := hB
  have hlt : k < ops.size ∧ L.length < ops.size := by simpa using h2
  rw [show ops.size - L.length = ops.size - (k :: L).length + 1 by rw [List.length_cons]; omega]
  refine wpAnyH_take hi h1 h3 h4 (fun _ _ _ h => h) (v := undef) (.inr ⟨wanted_of hs.1 hg, rfl⟩) (hS w hs.2) ?_
  rw [h5, hd]
  exact h _ w ⟨hs.1.put d undef hdn, hs.2⟩

theorem WG.sole {o : Oper} (hi : ops[k]? = some o) (hB : soleBL ops L k = true) (hg : wants ops l o.guard = some true)
    (h : ∀ a w, C.St l m a w → o.wp C.P a w (fun a' w' => Mem C.w0 (mk ++ C.m0) w' ∧ wpAnyH C.P .any ops (NP Q) (fun w => Mem C.w0 (mk ++ C.m0) w) (ops.size - (k :: L).length) (fl ops.size (k :: L)) a' w') (NP Q)) : WG mk C Q ops L l m := by
  intro a w hs
  simp only [soleBL, Bool.and_eq_true, beq_iff_eq] at hB
  obtain ⟨⟨h2, h3⟩, h5⟩ := hB
  have hlt : k < ops.size ∧ L.length < ops.size := by simpa using h2
  rw [show ops.size - L.length = ops.size - (k :: L).length + 1 by rw [List.length_cons]; omega]
  refine wpAnyH_all h3 (by simp) (fun i hi' => ?_)
  rw [List.mem_singleton] at hi'
  subst hi'
  rw [h5]
  unfold wpOp
  simp only [hi, wanted_of hs.1 hg, if_true]
  exact .inl (h a w hs)
theorem WG.ev {α : Type} {o : Oper} {φ : α → Prop} {v : α → Value} {m' : α → List Res} {d : Nat} (hi : ops[k]? = some o) (hB : soleBL ops L k = true) (hv : Ev C l m o φ v m') (hd : o.dst = some d) (hdn : Nat.blt d C.n = true) (hg : wants ops l o.guard = some true)
    (hS : ∀ x w, Mem C.w0 (m' x ++ C.m0) w → Mem C.w0 (mk ++ C.m0) w) (h : ∀ x, φ x → WG mk C Q ops (k :: L) ((d, v x) :: l) (m' x)) : WG mk C Q ops L l m :=
  WG.sole hi hB hg fun a w hs => by
    obtain ⟨x, w', hx, hr, hm⟩ := hv a.eval (ev_of hs.1) w hs.2
    unfold Oper.wp
    rw [hr, Oper.upon_value, hd]
    exact ⟨hS x _ hm, h x hx _ _ ⟨hs.1.put d _ hdn, hm⟩⟩
theorem WG.st {o : Oper} {m' : List Res} (hi : ops[k]? = some o) (hB : soleBL ops L k = true) (hv : Sv C l m o m') (hd : o.dst = none) (hg : wants ops l o.guard = some true)
    (hS : ∀ w, Mem C.w0 (m' ++ C.m0) w → Mem C.w0 (mk ++ C.m0) w) (h : WG mk C Q ops (k :: L) l m') : WG mk C Q ops L l m :=
  WG.sole hi hB hg fun a w hs => by
    obtain ⟨w', hr, hm⟩ := hv a.eval (ev_of hs.1) w hs.2
    unfold Oper.wp
    rw [hr, Oper.upon_skip, hd]
    exact ⟨hS _ hm, h _ _ ⟨hs.1, hm⟩⟩
theorem WG.qv {o : Oper} {v : Value} {d : Nat} (hi : ops[k]? = some o) (hB : soleBL ops L k = true) (hv : Qv C l m o v) (hd : o.dst = some d) (hdn : Nat.blt d C.n = true) (hg : wants ops l o.guard = some true)
    (hS : ∀ w, Mem C.w0 (m ++ C.m0) w → Mem C.w0 (mk ++ C.m0) w) (h : WG mk C Q ops (k :: L) ((d, v) :: l) m) : WG mk C Q ops L l m :=
  WG.ev (α := Unit) (φ := fun _ => True) (v := fun _ => v) (m' := fun _ => m) hi hB (fun ev hev w hw => ⟨(), w, trivial, hv ev hev w hw, hw⟩) hd hdn hg (fun _ => hS) (fun _ _ => h)
theorem WG.call {α : Type} {φ : α → Prop} {val : α → Value} {M : α → List Res} {d : Nat} {ty : TypeId} {pos : String} {af : Array Edge} {g : Option (Nat × Bool)} {fo : Operand} {xs : List Operand} {ts : Array TypeId} {f : FuncId} {vs cs : List Value} {m1 m2 : List Res}
    (hi : ops[k]? = some ⟨some d, .call { callee := .value fo, args := xs.toArray, argTypes := ts }, ty, pos, af, g⟩) (hB : soleBL ops L k = true)
    (hfo : opv l fo = some (.func (.func f) #[] cs.toArray)) (hxs : opvs l xs = some vs) (hm : m = m1 ++ m2) (hsp : Ct C.P f (vs ++ cs) C.w0 m1 (m2 ++ C.m0) φ val M) (hdn : Nat.blt d C.n = true) (hg : wants ops l g = some true)
    (hS : ∀ x w, Mem C.w0 (M x ++ m2 ++ C.m0) w → Mem C.w0 (mk ++ C.m0) w) (h : ∀ x, φ x → WG mk C Q ops (k :: L) ((d, val x) :: l) (M x ++ m2)) : WG mk C Q ops L l m :=
  WG.sole hi hB hg fun a w hs => by
    unfold Ct at hsp
    have hrun := run_call hsp.1 (ev := a.eval) (d := some d) (ty := ty) (pos := pos) (af := af) (g := g) (ts := ts) (ev_of hs.1 _ _ hfo) (opvs_map (ev_of hs.1) xs vs hxs) w
    unfold Oper.wp
    rw [hrun, Oper.upon_enter]
    refine (hsp.2 w (by rw [← List.append_assoc, ← hm]; exact hs.2)).mono fun e w' hh => ?_
    unfold sp at hh
    obtain ⟨x, hx, rfl, hmem⟩ := hh
    have hmem' : Mem C.w0 (M x ++ m2 ++ C.m0) w' := by rw [List.append_assoc]; exact hmem
    exact ⟨hS x _ hmem', h x hx _ _ ⟨hs.1.put d _ hdn, hmem'⟩⟩
theorem WG.nil (hr : Region.ready .any ops (fl ops.size L) = []) (h : WE C Q .normal l m) : WG mk C Q ops L l m := by
  intro a w hs
  unfold WE at h
  exact wpAnyH_done (Q := NP Q) hr (show NP Q .normal a w from h a w hs) _
end
end Go.Gp
