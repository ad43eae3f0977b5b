/- A small logic for the walks of this seat: what the slots hold (Sl), which blocks of memory are known (Mem), one rule for each kind of step, contracts of functions (Ct). -/
import Derived.Test.YthnabbidlmihbaaBase
import Derived.RangeFuncIn
import Derived.TacticsIn
import Derived.Sort.QuietThIn
import Derived.Sort.LoopGhostIn
import Derived.Scope
import Derived.KernelRfl
import Derived.Deep.AppendLies
import Derived.Laws.OwnMore
set_option linter.unusedSimpArgs false
set_option linter.unusedVariables false
namespace Go.Gp
open Go.RowKit

/-! ### 1. Slots -/

def lk : Nat → List (Nat × Value) → Option Value
  | _, [] => none
  | t, (s, v) :: r => bif Nat.beq t s then some v else lk t r

structure Sl (n : Nat) (D : List Deferred) (l : List (Nat × Value)) (a : Act) : Prop where
  d : a.defers = D
  size : a.tmps.size = n
  at_ : ∀ s v, lk s l = some v → a.tmps.getD s undef = v

theorem Sl.put {n : Nat} {D : List Deferred} {l : List (Nat × Value)} {a : Act} (h : Sl n D l a) (d : Nat) (v : Value) (hd : Nat.blt d n = true) : Sl n D ((d, v) :: l) (a.put (some d) v) := by
  have hd' : d < n := by simpa [Nat.blt_eq] using hd
  refine ⟨h.d, by simp [Act.put, h.size], ?_⟩
  intro s u hu
  simp only [lk] at hu
  by_cases e : s = d
  · subst e
    simp only [Nat.beq_refl, cond_true, Option.some.injEq] at hu
    subst hu
    have : s < a.tmps.size := by rw [h.size]; exact hd'
    simp [Act.put, Array.getD_eq_getD_getElem?, Array.getElem?_setIfInBounds, this]
  · have : Nat.beq s d = false := by
      cases hb : Nat.beq s d with
      | false => rfl
      | true => exact absurd (Nat.eq_of_beq_eq_true hb) e
    rw [this] at hu
    have h1 := h.at_ s u hu
    have e' : ¬ d = s := fun x => e x.symm
    simpa [Act.put, Array.getD_eq_getD_getElem?, Array.getElem?_setIfInBounds, e'] using h1

theorem Sl.none_ {n : Nat} {D : List Deferred} {l : List (Nat × Value)} {a : Act} (h : Sl n D l a) (v : Value) : Sl n D l (a.put none v) := h

def subS : List (Nat × Value) → List (Nat × Value) → Prop
  | [], _ => True
  | (s, v) :: r, l => lk s l = some v ∧ subS r l

theorem subS.at_ {L l : List (Nat × Value)} (h : subS L l) : ∀ s v, lk s L = some v → lk s l = some v := by
  induction L with
  | nil => intro s v hv; simp [lk] at hv
  | cons p r ih =>
    obtain ⟨s', v'⟩ := p
    intro s v hv
    simp only [lk] at hv
    cases hb : Nat.beq s s' with
    | true =>
      have e := Nat.eq_of_beq_eq_true hb
      subst e
      rw [hb] at hv
      simp only [cond_true, Option.some.injEq] at hv
      subst hv
      exact h.1
    | false =>
      rw [hb] at hv
      exact ih h.2 s v hv

theorem Sl.sub {n : Nat} {D : List Deferred} {L l : List (Nat × Value)} {a : Act} (h : Sl n D l a) (hs : subS L l) : Sl n D L a :=
  ⟨h.d, h.size, fun s v hv => h.at_ s v (hs.at_ s v hv)⟩

def opv (l : List (Nat × Value)) : Operand → Option Value
  | .tmp t => lk t l
  | .const v => some v
  | .global g => some (.pointer (some ⟨g, 0, none⟩))
  | .func f => some (.func (.func f) #[] #[])

theorem Sl.eval {n : Nat} {D : List Deferred} {l : List (Nat × Value)} {a : Act} (h : Sl n D l a) {x : Operand} {v : Value} (hx : opv l x = some v) : a.eval x = v := by
  cases x with
  | tmp t => exact h.at_ t v hx
  | const c => exact Option.some.inj hx
  | global g => exact Option.some.inj hx
  | func f => exact Option.some.inj hx

def opvs (l : List (Nat × Value)) : List Operand → Option (List Value)
  | [] => some []
  | x :: r => match opv l x, opvs l r with
    | some v, some vs => some (v :: vs)
    | _, _ => none

theorem opvs_map {l : List (Nat × Value)} {ev : Operand → Value} (hev : ∀ x v, opv l x = some v → ev x = v) : ∀ (xs : List Operand) (vs : List Value), opvs l xs = some vs → xs.map ev = vs
  | [], vs, h => by simp [opvs] at h; simp [h]
  | x :: r, vs, h => by
    simp only [opvs] at h
    cases h1 : opv l x with
    | none => simp [h1] at h
    | some v =>
      cases h2 : opvs l r with
      | none => simp [h1, h2] at h
      | some us =>
        simp [h1, h2] at h
        subst h
        simp [hev x v h1, opvs_map hev r us h2]

/-! ### 2. Memory -/

inductive Res where
  | blk (g : Nat) (cs : List Value) (e : TypeId)
  | own (A : Option Addr) (c n : Nat) (xs : List Value) (e : TypeId) (sz : Nat)
  | obj (g : Nat) (o : Obj)

def Res.at (B : Nat) (w : World) : Res → Prop
  | .blk g cs e => B ≤ g ∧ w.heap[g]? = some (.cells cs.toArray e (0, 0))
  | .own A c n xs e sz => w.ownsRow B e sz (.slice A n c) n xs
  | .obj g o => B ≤ g ∧ w.heap[g]? = some o

def Res.block : Res → Option Nat
  | .blk g _ _ => some g
  | .own A _ _ _ _ _ => A.map (·.block)
  | .obj g _ => some g

def Res.apart (r s : Res) : Prop := ∀ g, r.block = some g → s.block ≠ some g

structure Mem (w0 : World) (m : List Res) (w : World) : Prop where
  below : Below w0.heap.size w0 w
  all : ∀ (i : Nat) (r : Res), m[i]? = some r → r.at w0.heap.size w
  apart : ∀ (i j : Nat) (r s : Res), i ≠ j → m[i]? = some r → m[j]? = some s → r.apart s

theorem Mem.refl (w : World) : Mem w [] w := ⟨Below.refl _ _, by simp, by simp⟩

theorem at_lt {B : Nat} {w : World} {r : Res} (h : r.at B w) : ∀ g, r.block = some g → B ≤ g ∧ g < w.heap.size := by
  intro g hg
  cases r with
  | blk g' cs e =>
    simp only [Res.block, Option.some.injEq] at hg
    subst hg
    exact ⟨h.1, (Array.getElem?_eq_some_iff.1 h.2).1⟩
  | own A c n xs e sz =>
    cases A with
    | none => simp [Res.block] at hg
    | some a => exact World.ownsRow.lt h g (by simpa [Res.block, Value.ownBlock] using hg)
  | obj g' o =>
    simp only [Res.block, Option.some.injEq] at hg
    subst hg
    exact ⟨h.1, (Array.getElem?_eq_some_iff.1 h.2).1⟩

/-- A resource lives on where its block is left alone. -/
theorem res_kept {B : Nat} {w w' : World} {row : Option Nat} {r : Res} (h : r.at B w) (hg : w.grownBy w' row) (hne : ∀ g, r.block = some g → row ≠ some g) : r.at B w' := by
  cases r with
  | blk g cs e =>
    have := hne g rfl
    exact ⟨h.1, (hg.block g (Array.getElem?_eq_some_iff.1 h.2).1 (fun x => this x.symm)).trans h.2⟩
  | own A c n xs e sz =>
    refine World.ownsRow.kept h hg ?_
    cases A with
    | none => exact .inl rfl
    | some a =>
      have := hne a.block rfl
      exact .inr (fun x => this (by rw [← x]; rfl))
  | obj g o =>
    have := hne g rfl
    exact ⟨h.1, (hg.block g (Array.getElem?_eq_some_iff.1 h.2).1 (fun x => this x.symm)).trans h.2⟩

theorem Mem.bnd {w0 w : World} {m : List Res} (h : Mem w0 m w) : w0.heap.size ≤ w.heap.size := h.below.size

/-- New blocks came, nothing that was there has turned. -/
theorem Mem.grow {w0 w w' : World} {m : List Res} (h : Mem w0 m w) (hg : w.grownBy w' none) : Mem w0 m w' :=
  ⟨h.below.grown hg h.bnd (by simp), fun i r hi => res_kept (h.all i r hi) hg (by simp), h.apart⟩

theorem Mem.of_below {w0 w w' : World} {m : List Res} (h : Mem w0 m w) (hb : Below w.heap.size w w') : Mem w0 m w' :=
  h.grow ⟨hb.os, hb.tape, hb.output, hb.size, fun k hk _ => hb.block k hk⟩

/-- .. and a new one is known. -/
theorem Mem.add {w0 w w' : World} {m : List Res} (h : Mem w0 m w) (hg : w.grownBy w' none) {r : Res} (hr : r.at w0.heap.size w') (hnew : ∀ g, r.block = some g → w.heap.size ≤ g) : Mem w0 (r :: m) w' := by
  have h' := h.grow hg
  refine ⟨h'.below, ?_, ?_⟩
  · intro i s hi
    cases i with
    | zero => simp at hi; exact hi ▸ hr
    | succ i => exact h'.all i s (by simpa using hi)
  · intro i j s t hij hi hj
    cases i with
    | zero =>
      simp at hi; subst hi
      cases j with
      | zero => exact absurd rfl hij
      | succ j =>
        have hj' : m[j]? = some t := by simpa using hj
        intro g hg1 hg2
        have := at_lt (h.all j t hj') g hg2
        have := hnew g hg1
        omega
    | succ i =>
      have hi' : m[i]? = some s := by simpa using hi
      cases j with
      | zero =>
        simp at hj; subst hj
        intro g hg1 hg2
        have := at_lt (h.all i s hi') g hg1
        have := hnew g hg2
        omega
      | succ j => exact h.apart i j s t (by omega) hi' (by simpa using hj)

/-- One resource turns, its block alone being written (or left for a new one). -/
theorem Mem.upd {w0 w w' : World} {m : List Res} (h : Mem w0 m w) {i : Nat} {r r' : Res} (hi : m[i]? = some r) (hg : w.grownBy w' r.block) (hr : r'.at w0.heap.size w')
    (hb : ∀ g, r'.block = some g → r.block = some g ∨ w.heap.size ≤ g) : Mem w0 (m.set i r') w' := by
  have hlt : i < m.length := (List.getElem?_eq_some_iff.1 hi).1
  have hB : ∀ g, r.block = some g → w0.heap.size ≤ g := fun g e => (at_lt (h.all i r hi) g e).1
  refine ⟨h.below.grown hg h.bnd hB, ?_, ?_⟩
  · intro j s hj
    rw [List.getElem?_set] at hj
    split at hj
    · simp [hlt] at hj; exact hj ▸ hr
    · rename_i hne
      refine res_kept (h.all j s hj) hg ?_
      intro g hs hr2
      exact h.apart i j r s hne hi hj g hr2 hs
  · intro j k s t hjk hj hk
    rw [List.getElem?_set] at hj hk
    by_cases e1 : i = j
    · subst e1
      simp [hlt] at hj
      subst hj
      rw [if_neg hjk] at hk
      intro g g1 g2
      rcases hb g g1 with h1 | h1
      · exact h.apart i k r t hjk hi hk g h1 g2
      · have := at_lt (h.all k t hk) g g2
        omega
    · rw [if_neg e1] at hj
      by_cases e2 : i = k
      · subst e2
        simp [hlt] at hk
        subst hk
        intro g g1 g2
        rcases hb g g2 with h1 | h1
        · exact h.apart j i s r hjk hj hi g g1 h1
        · have := at_lt (h.all j s hj) g g1
          omega
      · rw [if_neg e2] at hk
        exact h.apart j k s t hjk hj hk

theorem Mem.tail {w0 w : World} {r : Res} {m : List Res} (h : Mem w0 (r :: m) w) : Mem w0 m w :=
  ⟨h.below, fun i s hi => h.all (i + 1) s (by simpa using hi), fun i j s t hij hi hj => h.apart (i + 1) (j + 1) s t (by omega) (by simpa using hi) (by simpa using hj)⟩

theorem Mem.appR {w0 w : World} {m m0 : List Res} (h : Mem w0 (m ++ m0) w) : Mem w0 m0 w := by
  induction m with
  | nil => exact h
  | cons r m ih => exact ih (Mem.tail h)

theorem Mem.appL {w0 w : World} {m m0 : List Res} (h : Mem w0 (m ++ m0) w) : Mem w0 m w :=
  ⟨h.below, fun i s hi => h.all i s (by rw [List.getElem?_append_left (List.getElem?_eq_some_iff.1 hi).1]; exact hi),
   fun i j s t hij hi hj => h.apart i j s t hij (by rw [List.getElem?_append_left (List.getElem?_eq_some_iff.1 hi).1]; exact hi) (by rw [List.getElem?_append_left (List.getElem?_eq_some_iff.1 hj).1]; exact hj)⟩

/-- Some of the resources, in another order: 'is' their places. -/
theorem Mem.sel {w0 w : World} {m m0 m' : List Res} (h : Mem w0 (m ++ m0) w) (is : List Nat) (hnd : is.Nodup) (hm : is.map (m[·]?) = m'.map some) : Mem w0 (m' ++ m0) w := by
  have hlen : is.length = m'.length := by simpa using congrArg List.length hm
  have key : ∀ (k : Nat) (r : Res), (m' ++ m0)[k]? = some r → ∃ i, (m ++ m0)[i]? = some r ∧ ((k < m'.length ∧ ∃ j, is[k]? = some j ∧ i = j ∧ j < m.length) ∨ (m'.length ≤ k ∧ i = m.length + (k - m'.length))) := by
    intro k r hk
    by_cases hlt : k < m'.length
    · rw [List.getElem?_append_left hlt] at hk
      have h1 : (is.map (m[·]?))[k]? = some (some r) := by rw [hm]; simp [hk]
      rw [List.getElem?_map] at h1
      cases hj : is[k]? with
      | none => rw [hj] at h1; simp at h1
      | some j =>
        rw [hj] at h1
        simp only [Option.map_some, Option.some.injEq] at h1
        have hjl := (List.getElem?_eq_some_iff.1 h1).1
        exact ⟨j, by rw [List.getElem?_append_left hjl]; exact h1, .inl ⟨hlt, j, rfl, rfl, hjl⟩⟩
    · rw [List.getElem?_append_right (by omega)] at hk
      refine ⟨m.length + (k - m'.length), ?_, .inr ⟨by omega, rfl⟩⟩
      rw [List.getElem?_append_right (by omega)]
      simpa using hk
  refine ⟨h.below, ?_, ?_⟩
  · intro k r hk
    obtain ⟨i, hi, _⟩ := key k r hk
    exact h.all i r hi
  · intro k k' r s hne hk hk'
    obtain ⟨i, hi, hc⟩ := key k r hk
    obtain ⟨i', hi', hc'⟩ := key k' s hk'
    refine h.apart i i' r s ?_ hi hi'
    rcases hc with ⟨h1, j, hj, rfl, hjl⟩ | ⟨h1, rfl⟩
    · rcases hc' with ⟨h2, j', hj', rfl, hjl'⟩ | ⟨h2, rfl⟩
      · intro e
        subst e
        have hk1 := (List.getElem?_eq_some_iff.1 hj)
        have hk2 := (List.getElem?_eq_some_iff.1 hj')
        obtain ⟨a1, b1⟩ := hk1
        obtain ⟨a2, b2⟩ := hk2
        exact hne ((List.getElem_inj hnd).1 (b1.trans b2.symm))
      · omega
    · rcases hc' with ⟨h2, j', hj', rfl, hjl'⟩ | ⟨h2, rfl⟩
      · omega
      · omega

theorem grownBy_none_of_below {w w' : World} (hb : Below w.heap.size w w') : w.grownBy w' none := ⟨hb.os, hb.tape, hb.output, hb.size, fun k hk _ => hb.block k hk⟩

theorem Mem.alloc {w0 w : World} {m : List Res} (h : Mem w0 m w) (cs : List Value) (e : TypeId) : Mem w0 (.blk w.heap.size cs e :: m) (w.alloc (.cells cs.toArray e)) :=
  h.add (World.grownBy_alloc w _ none) ⟨h.bnd, heap_alloc_new w _⟩ (fun g hg => by simp [Res.block] at hg; omega)

theorem Mem.drew {w0 w : World} {m : List Res} (h : Mem w0 m w) : Mem w0 m w.drew := h.of_below ((Below.refl _ w).drew)

/-! ### 3. The judgements -/

structure Cx where
  r : Option Nat
  P : Program
  n : Nat
  D : List Deferred
  w0 : World
  m0 : List Res

def FW (r : Option Nat) : Fence := { fn := fun _ => True, depth := none, alive := false, round := r }

abbrev Po := Exit → Act → World → Prop

def Cx.St (C : Cx) (l : List (Nat × Value)) (m : List Res) (a : Act) (w : World) : Prop := Sl C.n C.D l a ∧ Mem C.w0 (m ++ C.m0) w

def WC (C : Cx) (Q : Po) (c : Code) (l : List (Nat × Value)) (m : List Res) : Prop := ∀ a w, C.St l m a w → c.wpIn (FW C.r) 0 C.P Q a w
def WL (C : Cx) (Q : Po) (ops : Array Oper) (rest : List Oper) (l : List (Nat × Value)) (m : List Res) : Prop := ∀ a w, C.St l m a w → wpListIn (FW C.r) 0 C.P ops Q rest a w
def WE (C : Cx) (Q : Po) (e : Exit) (l : List (Nat × Value)) (m : List Res) : Prop := ∀ a w, C.St l m a w → Q e a w
/-- A region that asks the tape for its order, walked in the order of the text. -/
def WQ (C : Cx) (Q : Po) (ops : Array Oper) (rest : List Oper) (l : List (Nat × Value)) (m : List Res) : Prop :=
  ∀ a, Sl C.n C.D l a → wpQuietIn (FW C.r) 0 C.P ops (fun w => Mem C.w0 (m ++ C.m0) w) (fun a' => ∀ w', Mem C.w0 (m ++ C.m0) w' → Q .normal a' w') rest a


section rules
variable {C : Cx} {Q : Po} {l L : List (Nat × Value)} {m M : List Res}

/-- What follows, behind a variable. -/
def CK (C : Cx) (K : Act → World → Prop) (l : List (Nat × Value)) (m : List Res) : Prop := ∀ a w, C.St l m a w → K a w
theorem WC.seq {x y : Code} (h : ∀ K : Act → World → Prop, (∀ l m, WC C Q y l m → CK C K l m) → WC C (Exit.then K Q) x l m) : WC C Q (.seq x y) l m := fun a w hs => wpIn_seq (h (fun a w => y.wpIn (FW C.r) 0 C.P Q a w) (fun l m h => h) a w hs)
theorem WC.skip (h : WE C Q .normal l m) : WC C Q .skip l m := fun a w hs => wpIn_skip (h a w hs)
theorem WC.label {i : Nat} (h : WE C Q .normal l m) : WC C Q (.label i) l m := fun a w hs => wpIn_label (h a w hs)
theorem WC.exit {i : Nat} (h : WE C Q (.exit i) l m) : WC C Q (.exit i) l m := fun a w hs => wpIn_exit (h a w hs)
theorem WC.ret (h : WE C Q .ret l m) : WC C Q .ret l m := fun a w hs => wpIn_ret (h a w hs)
theorem WC.block {i : Nat} {c : Code} (h : WC C (Exit.inBlock i Q) c l m) : WC C Q (.block i c) l m := fun a w hs => wpIn_block (h a w hs)
theorem WC.cond_t {c : Operand} {x y : Code} (hc : opv l c = some (.bool true)) (h : WC C Q x l m) : WC C Q (.cond c x y) l m := fun a w hs => wpIn_cond (hs.1.eval hc) (h a w hs)
theorem WC.cond_f {c : Operand} {x y : Code} (hc : opv l c = some (.bool false)) (h : WC C Q y l m) : WC C Q (.cond c x y) l m := fun a w hs => wpIn_cond (hs.1.eval hc) (h a w hs)
theorem WC.cond {c : Operand} {x y : Code} {b : Bool} (hc : opv l c = some (.bool b)) (ht : b = true → WC C Q x l m) (hf : b = false → WC C Q y l m) : WC C Q (.cond c x y) l m := by
  cases b
  · exact .cond_f hc (hf rfl)
  · exact .cond_t hc (ht rfl)
theorem WC.region {i : Nat} {ops : List Oper} (h : WL C Q ops.toArray ops l m) : WC C Q (.region i ops.toArray false) l m := fun a w hs => wpIn_region_lit (h a w hs)
theorem WC.draws {i : Nat} {ops : List Oper} (hr : C.r = none) (hm : C.P.follows .mixedOrders = true) (hB : Region.lexB .any ops.toArray = true) (h : WQ C Q ops.toArray ops l m) : WC C Q (.region i ops.toArray true) l m :=
  fun a w hs => wpIn_region_quiet hr hm hB (C := fun w => Mem C.w0 (m ++ C.m0) w) (hs.2.drew) (h a hs.1)
theorem WC.weaken {c : Code} (hS : subS L l) (hM : ∀ w, Mem C.w0 (m ++ C.m0) w → Mem C.w0 (M ++ C.m0) w) (h : WC C Q c L M) : WC C Q c l m := fun a w hs => h a w ⟨hs.1.sub hS, hM w hs.2⟩
theorem WE.weaken {e : Exit} (hS : subS L l) (hM : ∀ w, Mem C.w0 (m ++ C.m0) w → Mem C.w0 (M ++ C.m0) w) (h : WE C Q e L M) : WE C Q e l m := fun a w hs => h a w ⟨hs.1.sub hS, hM w hs.2⟩
theorem WL.weaken {ops : Array Oper} {rest : List Oper} (hS : subS L l) (hM : ∀ w, Mem C.w0 (m ++ C.m0) w → Mem C.w0 (M ++ C.m0) w) (h : WL C Q ops rest L M) : WL C Q ops rest l m := fun a w hs => h a w ⟨hs.1.sub hS, hM w hs.2⟩
theorem WC.scope {c : Code} (hr : C.r = none) (h : WC C (Exit.noGoto Q) c l m) : WC C Q (.scope c) l m := by
  intro a w hs
  have h' := h a w hs
  rw [hr] at h' ⊢
  exact wpIn_wide.2 (wp_scope_straight (wpIn_wide.1 h'))

def back {α : Type} (C : Cx) (L : α → List (Nat × Value)) (M : α → List Res) (φ : α → Prop) (μ : α → Nat) (k : Nat) : Act → World → Prop := fun a w => ∃ x, φ x ∧ μ x < k ∧ C.St (L x) (M x) a w

theorem WC.loop {α : Type} {c : Code} (L : α → List (Nat × Value)) (M : α → List Res) (φ : α → Prop) (μ : α → Nat) (x0 : α) (h0 : φ x0) (hS : subS (L x0) l) (hM : ∀ w, Mem C.w0 (m ++ C.m0) w → Mem C.w0 (M x0 ++ C.m0) w)
    (round : ∀ x, φ x → WC C (Exit.then (back C L M φ μ (μ x)) Q) c (L x) (M x)) : WC C Q (.loop c) l m := by
  intro a w hs
  refine wpIn_loop_ghost (fun k a w => ∃ x, φ x ∧ μ x = k ∧ C.St (L x) (M x) a w) (μ x0) ⟨x0, h0, rfl, hs.1.sub hS, hM w hs.2⟩ ?_
  rintro k a w ⟨x, hx, rfl, hst⟩
  refine wpIn_mono (round x hx a w hst) ?_
  intro e a' w' hq
  cases e with
  | normal =>
    obtain ⟨x', h1, h2, h3⟩ := hq
    exact ⟨μ x', h2, x', h1, rfl, h3⟩
  | exit id => exact hq
  | goto l => exact hq
  | ret => exact hq
  | panic ch => exact hq
  | outgrown => exact hq

theorem WE.back {α : Type} {L : α → List (Nat × Value)} {M : α → List Res} {φ : α → Prop} {μ : α → Nat} {k : Nat} (x : α) (hx : φ x) (hk : μ x < k) (hS : subS (L x) l) (hM : ∀ w, Mem C.w0 (m ++ C.m0) w → Mem C.w0 (M x ++ C.m0) w) :
    WE C (Exit.then (Gp.back C L M φ μ k) Q) .normal l m := fun a w hs => ⟨x, hx, hk, hs.1.sub hS, hM w hs.2⟩

def met {α : Type} (C : Cx) (L : α → List (Nat × Value)) (M : α → List Res) (φ : α → Prop) : Act → World → Prop := fun a w => ∃ x, φ x ∧ C.St (L x) (M x) a w
/-- Where the ways through a statement meet again. -/
theorem WC.cut {α : Type} {x y : Code} (L : α → List (Nat × Value)) (M : α → List Res) (φ : α → Prop) (h1 : WC C (Exit.then (met C L M φ) Q) x l m) (h2 : ∀ z, φ z → WC C Q y (L z) (M z)) : WC C Q (.seq x y) l m := fun a w hs => by
  refine wpIn_seq (wpIn_mono (h1 a w hs) ?_)
  intro e a' w' hq
  cases e with
  | normal =>
    obtain ⟨z, hz, hst⟩ := hq
    exact h2 z hz a' w' hst
  | exit id => exact hq
  | goto l => exact hq
  | ret => exact hq
  | panic ch => exact hq
  | outgrown => exact hq
theorem WE.met {α : Type} {L : α → List (Nat × Value)} {M : α → List Res} {φ : α → Prop} (x : α) (hx : φ x) (hS : subS (L x) l) (hM : ∀ w, Mem C.w0 (m ++ C.m0) w → Mem C.w0 (M x ++ C.m0) w) : WE C (Exit.then (Gp.met C L M φ) Q) .normal l m := fun a w hs => ⟨x, hx, hs.1.sub hS, hM w hs.2⟩
theorem WE.then_n {K : Act → World → Prop} {y : Code} (hK : ∀ l m, WC C Q y l m → CK C K l m) (h : WC C Q y l m) : WE C (Exit.then K Q) .normal l m := hK l m h
theorem WE.then_x {K : Act → World → Prop} {i : Nat} (h : WE C Q (.exit i) l m) : WE C (Exit.then K Q) (.exit i) l m := h
theorem WE.then_r {K : Act → World → Prop} (h : WE C Q .ret l m) : WE C (Exit.then K Q) .ret l m := h
theorem WE.blk_n {i : Nat} (h : WE C Q .normal l m) : WE C (Exit.inBlock i Q) .normal l m := h
theorem WE.blk_r {i : Nat} (h : WE C Q .ret l m) : WE C (Exit.inBlock i Q) .ret l m := h
theorem WE.blk_x {i : Nat} (h : WE C Q .normal l m) : WE C (Exit.inBlock i Q) (.exit i) l m := fun a w hs => by simp only [Exit.inBlock, if_true]; exact h a w hs
theorem WE.blk_y {i j : Nat} (hij : Nat.beq j i = false) (h : WE C Q (.exit j) l m) : WE C (Exit.inBlock i Q) (.exit j) l m := fun a w hs => by
  have : j ≠ i := fun e => by rw [e, Nat.beq_refl] at hij; cases hij
  simp only [Exit.inBlock, this, if_false]; exact h a w hs
theorem WE.sc_n (h : WE C Q .normal l m) : WE C (Exit.noGoto Q) .normal l m := h
theorem WE.sc_r (h : WE C Q .ret l m) : WE C (Exit.noGoto Q) .ret l m := h
theorem WE.sc_x {i : Nat} (h : WE C Q (.exit i) l m) : WE C (Exit.noGoto Q) (.exit i) l m := h

theorem WL.nil {ops : Array Oper} (h : WE C Q .normal l m) : WL C Q ops [] l m := h
theorem WQ.nil {ops : Array Oper} (h : WE C Q .normal l m) : WQ C Q ops [] l m := fun a hs => fun w hw => h a w ⟨hs, hw⟩

/-! ### 4. Operations -/

/-- What an operation does, whatever else the frame and the world hold: it yields v, some x making it out. -/
def Ev {α : Type} (C : Cx) (l : List (Nat × Value)) (m : List Res) (o : Oper) (φ : α → Prop) (v : α → Value) (m' : α → List Res) : Prop :=
  ∀ ev : Operand → Value, (∀ x u, opv l x = some u → ev x = u) → ∀ w, Mem C.w0 (m ++ C.m0) w → ∃ x w', φ x ∧ (execOp ev o).run C.P w = .ok (.value (v x)) w' ∧ Mem C.w0 (m' x ++ C.m0) w'

/-- .. it yields v and leaves the world alone. -/
def Qv (C : Cx) (l : List (Nat × Value)) (m : List Res) (o : Oper) (v : Value) : Prop :=
  ∀ ev : Operand → Value, (∀ x u, opv l x = some u → ev x = u) → ∀ w, Mem C.w0 (m ++ C.m0) w → (execOp ev o).run C.P w = .ok (.value v) w

/-- .. it yields nothing (a store). -/
def Sv (C : Cx) (l : List (Nat × Value)) (m : List Res) (o : Oper) (m' : List Res) : Prop :=
  ∀ ev : Operand → Value, (∀ x u, opv l x = some u → ev x = u) → ∀ w, Mem C.w0 (m ++ C.m0) w → ∃ w', (execOp ev o).run C.P w = .ok .skip w' ∧ Mem C.w0 (m' ++ C.m0) w'

def noDefer : Op → Bool
  | .defer _ => false
  | _ => true

theorem semAt_of {r : Option Nat} {ev : Operand → Value} {o : Oper} (h : noDefer o.op = true) : Oper.semAt r ev o = execOp ev o :=
  Oper.semAt_eq r ev o (fun c e => by rw [e] at h; cases h)

end rules


section
variable {C : Cx} {Q : Po} {l : List (Nat × Value)} {m : List Res} {ops : Array Oper} {rest : List Oper}

/-- Is the operation wanted? -/
def wants (ops : Array Oper) (l : List (Nat × Value)) : Option (Nat × Bool) → Option Bool
  | none => some true
  | some (j, b) => match ((ops[j]?).bind (·.dst)).bind (lk · l) with
    | some (.bool c) => some (bif c then b else !b)
    | some (.tuple _) => some false
    | _ => none

theorem wanted_of {n : Nat} {D : List Deferred} {a : Act} (h : Sl n D l a) {o : Oper} {t : Bool} (hw : wants ops l o.guard = some t) : Region.wanted o (yielded ops a.tmps) = t := by
  unfold Region.wanted
  cases hg : o.guard with
  | none => rw [hg] at hw; simpa [wants] using hw
  | some jb =>
    obtain ⟨j, b⟩ := jb
    rw [hg] at hw
    simp only [wants] at hw
    cases hd : (ops[j]?).bind (·.dst) with
    | none => rw [hd] at hw; simp at hw
    | some d =>
      rw [hd] at hw
      simp only [Option.bind_some] at hw
      cases hv : lk d l with
      | none => rw [hv] at hw; simp at hw
      | some v =>
        rw [hv] at hw
        have hat := h.at_ d v hv
        cases v with
        | bool c =>
          have hy : yielded ops a.tmps j = some c := by
            unfold yielded
            rw [hd]
            simp only [Option.bind_some]
            cases ht : a.tmps[d]? with
            | none => simp [Array.getD_eq_getD_getElem?, ht, undef] at hat
            | some u => simp [Array.getD_eq_getD_getElem?, ht] at hat; subst hat; rfl
          simp only [hy]
          cases c <;> cases b <;> simpa using hw
        | tuple vs =>
          have hy : yielded ops a.tmps j = none := by
            unfold yielded
            rw [hd]
            simp only [Option.bind_some]
            cases ht : a.tmps[d]? with
            | none => rfl
            | some u => simp [Array.getD_eq_getD_getElem?, ht] at hat; subst hat; rfl
          simp only [hy]
          simp at hw
          subst hw
          rfl
        | _ => simp at hw

/-- A list of operations, in a region that does not draw its order (false), or does (true). -/
def WX : Bool → Cx → Po → Array Oper → List Oper → List (Nat × Value) → List Res → Prop
  | false => WL
  | true => WQ

theorem WC.region_ {i : Nat} {ops : List Oper} (h : WX false C Q ops.toArray ops l m) : WC C Q (.region i ops.toArray false) l m := WC.region h
theorem WC.draws_ {i : Nat} {ops : List Oper} (hr : C.r = none) (hm : C.P.follows .mixedOrders = true) (hB : Region.lexB .any ops.toArray = true) (h : WX true C Q ops.toArray ops l m) : WC C Q (.region i ops.toArray true) l m := WC.draws hr hm hB h
theorem WX.nil {b : Bool} (h : WE C Q .normal l m) : WX b C Q ops [] l m := by
  cases b
  · exact WL.nil h
  · exact WQ.nil h

theorem ev_of {n : Nat} {D : List Deferred} {a : Act} (h : Sl n D l a) : ∀ x u, opv l x = some u → a.eval x = u := fun _ _ hx => h.eval hx

theorem fw_fn (r : Option Nat) (f : FuncId) : (FW r).fn f := trivial

theorem wpListIn_wanted {r : Option Nat} {P : Program} {a : Act} {w : World} {o : Oper} (hw : Region.wanted o (yielded ops a.tmps) = true) (hnd : noDefer o.op = true)
    (h : o.uponIn (FW r) 0 P a (wpListIn (FW r) 0 P ops Q rest) Q ((execOp a.eval o).run P w)) : wpListIn (FW r) 0 P ops Q (o :: rest) a w := by
  simp only [wpListIn, hw, if_true, Oper.wpIn]
  refine ⟨fun f _ => trivial, ?_⟩
  rw [semAt_of hnd]
  exact h

/-- An operation that leaves the world alone. -/
theorem WX.q {b : Bool} {o : Oper} {v : Value} {d : Nat} (hv : Qv C l m o v) (hd : o.dst = some d) (hdn : Nat.blt d C.n = true) (hg : wants ops l o.guard = some true) (hnd : noDefer o.op = true)
    (k : WX b C Q ops rest ((d, v) :: l) m) : WX b C Q ops (o :: rest) l m := by
  cases b
  · intro a w hs
    have hr := hv a.eval (ev_of hs.1) w hs.2
    refine wpListIn_wanted (wanted_of hs.1 hg) hnd ?_
    rw [hr]
    simp only [Oper.uponIn_value, hd]
    exact k _ _ ⟨hs.1.put d v hdn, hs.2⟩
  · intro a hs
    refine ⟨fun w hw f hf => trivial, ?_⟩
    rw [if_pos (wanted_of hs hg)]
    refine ⟨v, fun w hw => ?_, ?_⟩
    · unfold Oper.quietAtIn
      rw [hv a.eval (ev_of hs) w hw]
      exact ⟨rfl, rfl⟩
    · rw [hd]
      exact k _ (hs.put d v hdn)

/-- One that is passed over. -/
theorem WX.skip {b : Bool} {o : Oper} {d : Nat} (hd : o.dst = some d) (hdn : Nat.blt d C.n = true) (hg : wants ops l o.guard = some false)
    (k : WX b C Q ops rest ((d, undef) :: l) m) : WX b C Q ops (o :: rest) l m := by
  cases b
  · intro a w hs
    simp only [wpListIn, wanted_of hs.1 hg]
    refine ⟨fun f _ => trivial, ?_⟩
    rw [hd]
    exact k _ _ ⟨hs.1.put d undef hdn, hs.2⟩
  · intro a hs
    refine ⟨fun w hw f hf => trivial, ?_⟩
    rw [if_neg (by rw [wanted_of hs hg]; simp)]
    rw [hd]
    exact k _ (hs.put d undef hdn)

theorem WX.ev {α : Type} {o : Oper} {φ : α → Prop} {v : α → Value} {m' : α → List Res} {d : Nat} (hv : Ev C l m o φ v m') (hd : o.dst = some d) (hdn : Nat.blt d C.n = true) (hg : wants ops l o.guard = some true) (hnd : noDefer o.op = true)
    (k : ∀ x, φ x → WX false C Q ops rest ((d, v x) :: l) (m' x)) : WX false C Q ops (o :: rest) l m := by
  intro a w hs
  obtain ⟨x, w', hx, hr, hm⟩ := hv a.eval (ev_of hs.1) w hs.2
  refine wpListIn_wanted (wanted_of hs.1 hg) hnd ?_
  rw [hr]
  simp only [Oper.uponIn_value, hd]
  exact k x hx _ _ ⟨hs.1.put d _ hdn, hm⟩

theorem WX.st {o : Oper} {m' : List Res} (hv : Sv C l m o m') (hd : o.dst = none) (hg : wants ops l o.guard = some true) (hnd : noDefer o.op = true)
    (k : WX false C Q ops rest l m') : WX false C Q ops (o :: rest) l m := by
  intro a w hs
  obtain ⟨w', hr, hm⟩ := hv a.eval (ev_of hs.1) w hs.2
  refine wpListIn_wanted (wanted_of hs.1 hg) hnd ?_
  rw [hr]
  simp only [Oper.uponIn_skip, hd]
  exact k _ _ ⟨hs.1.none_ _, hm⟩

/-! ### The single operations that leave the world alone -/
section q
variable {d : Option Nat} {ty : TypeId} {pos : String} {af : Array Edge} {g : Option (Nat × Bool)}

theorem Qv.move {x : Operand} {v : Value} (hx : opv l x = some v) : Qv C l m ⟨d, .move x, ty, pos, af, g⟩ v := fun ev hev w _ => by simp [execOp, hev x v hx]
theorem Qv.assign {x : Operand} {v : Value} (hx : opv l x = some v) : Qv C l m ⟨d, .assign x, ty, pos, af, g⟩ v := fun ev hev w _ => by simp [execOp, hev x v hx]
theorem Qv.pick_t {c x y : Operand} {v : Value} (hc : opv l c = some (.bool true)) (hx : opv l x = some v) : Qv C l m ⟨d, .pick c x y, ty, pos, af, g⟩ v := fun ev hev w _ => by simp [execOp, hev c _ hc, hev x v hx, asBool]
theorem Qv.pick_f {c x y : Operand} {v : Value} (hc : opv l c = some (.bool false)) (hy : opv l y = some v) : Qv C l m ⟨d, .pick c x y, ty, pos, af, g⟩ v := fun ev hev w _ => by simp [execOp, hev c _ hc, hev y v hy, asBool]
theorem Qv.extract {x : Operand} {i : Nat} {vs : Array Value} {v : Value} (hx : opv l x = some (.tuple vs)) (hi : vs[i]? = some v) : Qv C l m ⟨d, .extract x i, ty, pos, af, g⟩ v := fun ev hev w _ => by simp [execOp, hev x _ hx, Instr.extract, hi]
theorem Qv.not_ {x : Operand} {b : Bool} {t : TypeId} (hx : opv l x = some (.bool b)) : Qv C l m ⟨d, .unOp .not t x, ty, pos, af, g⟩ (.bool !b) := fun ev hev w _ => by simp [execOp, hev x _ hx, go_sem]
theorem Qv.nilCheck {x : Operand} {a : Addr} (hx : opv l x = some (.pointer (some a))) : Qv C l m ⟨d, .nilCheck x, ty, pos, af, g⟩ (.pointer (some a)) := fun ev hev w _ => by simp [execOp, hev x _ hx]

/-- A binary operation, by its run. -/
theorem Qv.bin {op : BinOp} {t t' : TypeId} {x y : Operand} {u v r : Value} (hx : opv l x = some u) (hy : opv l y = some v) (hgd : ∀ x y, eqGuard op t x y u v = pure ()) (hr : ∀ w, Mem C.w0 (m ++ C.m0) w → (binOp op t u v).run C.P w = .ok r w) :
    Qv C l m ⟨d, .binOp op t x y t', ty, pos, af, g⟩ r := fun ev hev w hw => by
  simp [execOp, hev x _ hx, hev y _ hy, hgd, hr w hw]

theorem Qv.cmp {op : BinOp} {t t' : TypeId} {x y : Operand} {k : IntKind} {p q : Int} {b : Bool} (hx : opv l x = some (.int k p)) (hy : opv l y = some (.int k q)) (hr : ∀ t, binOp op t (.int k p) (.int k q) = pure (.bool b)) :
    Qv C l m ⟨d, .binOp op t x y t', ty, pos, af, g⟩ (.bool b) :=
  Qv.bin hx hy (fun _ _ => eqGuard_at_int ..) (fun w _ => by rw [hr]; rfl)

theorem Qv.lss_t {t t' : TypeId} {x y : Operand} {k : IntKind} {p q : Int} (hx : opv l x = some (.int k p)) (hy : opv l y = some (.int k q)) (h : p < q) : Qv C l m ⟨d, .binOp .lss t x y t', ty, pos, af, g⟩ (.bool true) := Qv.cmp hx hy (fun _ => by rw [binOp_lss, decide_eq_true h])
theorem Qv.lss_f {t t' : TypeId} {x y : Operand} {k : IntKind} {p q : Int} (hx : opv l x = some (.int k p)) (hy : opv l y = some (.int k q)) (h : ¬ p < q) : Qv C l m ⟨d, .binOp .lss t x y t', ty, pos, af, g⟩ (.bool false) := Qv.cmp hx hy (fun _ => by rw [binOp_lss, decide_eq_false h])
theorem Qv.leq_t {t t' : TypeId} {x y : Operand} {k : IntKind} {p q : Int} (hx : opv l x = some (.int k p)) (hy : opv l y = some (.int k q)) (h : p ≤ q) : Qv C l m ⟨d, .binOp .leq t x y t', ty, pos, af, g⟩ (.bool true) := Qv.cmp hx hy (fun _ => by rw [binOp_leq, decide_eq_true h])
theorem Qv.leq_f {t t' : TypeId} {x y : Operand} {k : IntKind} {p q : Int} (hx : opv l x = some (.int k p)) (hy : opv l y = some (.int k q)) (h : ¬ p ≤ q) : Qv C l m ⟨d, .binOp .leq t x y t', ty, pos, af, g⟩ (.bool false) := Qv.cmp hx hy (fun _ => by rw [binOp_leq, decide_eq_false h])
theorem Qv.gtr_t {t t' : TypeId} {x y : Operand} {k : IntKind} {p q : Int} (hx : opv l x = some (.int k p)) (hy : opv l y = some (.int k q)) (h : p > q) : Qv C l m ⟨d, .binOp .gtr t x y t', ty, pos, af, g⟩ (.bool true) := Qv.cmp hx hy (fun _ => by rw [binOp_gtr, decide_eq_true h])
theorem Qv.gtr_f {t t' : TypeId} {x y : Operand} {k : IntKind} {p q : Int} (hx : opv l x = some (.int k p)) (hy : opv l y = some (.int k q)) (h : ¬ p > q) : Qv C l m ⟨d, .binOp .gtr t x y t', ty, pos, af, g⟩ (.bool false) := Qv.cmp hx hy (fun _ => by rw [binOp_gtr, decide_eq_false h])
theorem Qv.geq_t {t t' : TypeId} {x y : Operand} {k : IntKind} {p q : Int} (hx : opv l x = some (.int k p)) (hy : opv l y = some (.int k q)) (h : p ≥ q) : Qv C l m ⟨d, .binOp .geq t x y t', ty, pos, af, g⟩ (.bool true) := Qv.cmp hx hy (fun _ => by rw [binOp_geq, decide_eq_true h])
theorem Qv.geq_f {t t' : TypeId} {x y : Operand} {k : IntKind} {p q : Int} (hx : opv l x = some (.int k p)) (hy : opv l y = some (.int k q)) (h : ¬ p ≥ q) : Qv C l m ⟨d, .binOp .geq t x y t', ty, pos, af, g⟩ (.bool false) := Qv.cmp hx hy (fun _ => by rw [binOp_geq, decide_eq_false h])
theorem Qv.eql_t {t t' : TypeId} {x y : Operand} {k : IntKind} {p q : Int} (hx : opv l x = some (.int k p)) (hy : opv l y = some (.int k q)) (h : p = q) : Qv C l m ⟨d, .binOp .eql t x y t', ty, pos, af, g⟩ (.bool true) := Qv.cmp hx hy (fun _ => by rw [binOp_eql, beq_iff_eq.2 h])
theorem Qv.eql_f {t t' : TypeId} {x y : Operand} {k : IntKind} {p q : Int} (hx : opv l x = some (.int k p)) (hy : opv l y = some (.int k q)) (h : ¬ p = q) : Qv C l m ⟨d, .binOp .eql t x y t', ty, pos, af, g⟩ (.bool false) := Qv.cmp hx hy (fun _ => by rw [binOp_eql, beq_eq_false_iff_ne.2 h])
theorem Qv.neq_t {t t' : TypeId} {x y : Operand} {k : IntKind} {p q : Int} (hx : opv l x = some (.int k p)) (hy : opv l y = some (.int k q)) (h : ¬ p = q) : Qv C l m ⟨d, .binOp .neq t x y t', ty, pos, af, g⟩ (.bool true) := Qv.cmp hx hy (fun _ => by rw [binOp_neq, bne_iff_ne.2 h])
theorem Qv.neq_f {t t' : TypeId} {x y : Operand} {k : IntKind} {p q : Int} (hx : opv l x = some (.int k p)) (hy : opv l y = some (.int k q)) (h : p = q) : Qv C l m ⟨d, .binOp .neq t x y t', ty, pos, af, g⟩ (.bool false) := Qv.cmp hx hy (fun _ => by rw [binOp_neq, bne_eq_false_iff_eq.2 h])

theorem Qv.add {t t' : TypeId} {x y : Operand} {k : IntKind} {p q r : Int} (hx : opv l x = some (.int k p)) (hy : opv l y = some (.int k q)) (h : k.wrap (p + q) = r) : Qv C l m ⟨d, .binOp .add t x y t', ty, pos, af, g⟩ (.int k r) :=
  Qv.bin hx hy (fun _ _ => eqGuard_at_int ..) (fun w _ => by rw [binOp_add, ← h]; simp [go_sem])
theorem Qv.sub {t t' : TypeId} {x y : Operand} {k : IntKind} {p q r : Int} (hx : opv l x = some (.int k p)) (hy : opv l y = some (.int k q)) (h : k.wrap (p - q) = r) : Qv C l m ⟨d, .binOp .sub t x y t', ty, pos, af, g⟩ (.int k r) :=
  Qv.bin hx hy (fun _ _ => eqGuard_at_int ..) (fun w _ => by rw [binOp_sub, ← h]; simp [go_sem])
theorem Qv.mul {t t' : TypeId} {x y : Operand} {k : IntKind} {p q r : Int} (hx : opv l x = some (.int k p)) (hy : opv l y = some (.int k q)) (h : k.wrap (p * q) = r) : Qv C l m ⟨d, .binOp .mul t x y t', ty, pos, af, g⟩ (.int k r) :=
  Qv.bin hx hy (fun _ _ => eqGuard_at_int ..) (fun w _ => by rw [binOp_mul, ← h]; simp [go_sem])

theorem Qv.len_slice {x : Operand} {t : TypeId} {e : TypeId} {A : Option Addr} {n c : Nat} (ht : C.P.underlying t = some (.slice e)) (hx : opv l x = some (.slice A n c)) :
    Qv C l m ⟨d, .call { callee := .builtin .len, args := #[x], argTypes := #[t] }, ty, pos, af, g⟩ (.int .i64 n) := fun ev hev w _ => by
  simp [execOp, resolve, invoke, builtin, hev x _ hx, Builtin.len_, run_underlying ht, goInt]
theorem Qv.len_string {x : Operand} {t : TypeId} {s : ByteArray} (ht : C.P.underlying t = some .string) (hx : opv l x = some (.string s)) :
    Qv C l m ⟨d, .call { callee := .builtin .len, args := #[x], argTypes := #[t] }, ty, pos, af, g⟩ (.int .i64 s.size) := fun ev hev w _ => by
  simp [execOp, resolve, invoke, builtin, hev x _ hx, Builtin.len_, run_underlying ht, goInt]

theorem Qv.makeInterface {x : Operand} {t : TypeId} {u : Value} (hx : opv l x = some u) (hr : ∀ w, (Instr.makeInterface t u).run C.P w = .ok (.iface t u) w) : Qv C l m ⟨d, .makeInterface t x, ty, pos, af, g⟩ (.iface t u) := fun ev hev w _ => by
  simp [execOp, hev x _ hx, hr w]
theorem Qv.makeFunc {f : Fn} {xs : List Operand} {vs : List Value} (hx : opvs l xs = some vs) : Qv C l m ⟨d, .makeFunc f #[] xs.toArray, ty, pos, af, g⟩ (.func f #[] vs.toArray) := fun ev hev w _ => by
  have := opvs_map hev xs vs hx
  simp [execOp, Instr.makeFunc, this]

theorem Qv.fieldAddr {x : Operand} {t i : Nat} {a b : Addr} (hx : opv l x = some (.pointer (some a))) (hr : ∀ w, (Instr.fieldAt t (.pointer (some a)) i).run C.P w = .ok (.pointer (some b)) w) : Qv C l m ⟨d, .fieldAddr t x i, ty, pos, af, g⟩ (.pointer (some b)) := fun ev hev w _ => by
  simp [execOp, hev x _ hx, hr w]
theorem Qv.field {x : Operand} {t i : Nat} {u v : Value} (hx : opv l x = some u) (hr : ∀ w, (Instr.field t u i).run C.P w = .ok v w) : Qv C l m ⟨d, .field t x i, ty, pos, af, g⟩ v := fun ev hev w _ => by
  simp [execOp, hev x _ hx, hr w]
theorem Qv.index {x y : Operand} {t : Nat} {u i v : Value} (hx : opv l x = some u) (hy : opv l y = some i) (hr : ∀ w, (Instr.index t u i).run C.P w = .ok v w) : Qv C l m ⟨d, .index t x y, ty, pos, af, g⟩ v := fun ev hev w _ => by
  simp [execOp, hev x _ hx, hev y _ hy, hr w]
theorem Qv.convert {x : Operand} {t u : TypeId} {v r : Value} (hx : opv l x = some v) (hr : ∀ w, (convert t u v).run C.P w = .ok r w) : Qv C l m ⟨d, .convert t u x, ty, pos, af, g⟩ r := fun ev hev w _ => by
  simp [execOp, hev x _ hx, hr w]
theorem Qv.typeAssert {x : Operand} {t u : TypeId} {b : Bool} {v r : Value} (hx : opv l x = some v) (hr : ∀ w, (Instr.typeAssert v t u b).run C.P w = .ok r w) : Qv C l m ⟨d, .typeAssert x t u b, ty, pos, af, g⟩ r := fun ev hev w _ => by
  simp [execOp, hev x _ hx, hr w]

def opps (l : List (Nat × Value)) : List (Nat × Operand) → Option (List (Nat × Value))
  | [] => some []
  | (i, x) :: r => match opv l x, opps l r with
    | some v, some vs => some ((i, v) :: vs)
    | _, _ => none
theorem opps_map {ev : Operand → Value} (hev : ∀ x v, opv l x = some v → ev x = v) : ∀ (xs : List (Nat × Operand)) (vs : List (Nat × Value)), opps l xs = some vs → xs.map (fun (i, x) => (i, ev x)) = vs
  | [], vs, h => by simp [opps] at h; simp [h]
  | (i, x) :: r, vs, h => by
    simp only [opps] at h
    cases h1 : opv l x with
    | none => simp [h1] at h
    | some v =>
      cases h2 : opps l r with
      | none => simp [h1, h2] at h
      | some us =>
        simp [h1, h2] at h
        subst h
        simp [hev x v h1, opps_map hev r us h2]

theorem Qv.build {t : TypeId} {ps : List (Nat × Operand)} {vs : List (Nat × Value)} {v : Value} (hps : opps l ps = some vs) (hr : ∀ w, (Instr.build t vs.toArray).run C.P w = .ok v w) : Qv C l m ⟨d, .build t ps.toArray, ty, pos, af, g⟩ v := fun ev hev w _ => by
  have := opps_map hev ps vs hps
  simp only [execOp, List.map_toArray, this, Sem.run_bind, hr w, Result.andThen_ok, Sem.run_pure]

/-- The address of a slice's element. -/
theorem Qv.indexAddr {x y : Operand} {t e : TypeId} {A : Option Addr} {n c : Nat} {k : IntKind} {i : Int} (ht : C.P.underlying t = some (.slice e)) (he : (C.P.info? e).map (·.size) = some 1) (hx : opv l x = some (.slice A n c)) (hy : opv l y = some (.int k i))
    (hA : 0 < n → A.isSome = true) (h0 : 0 ≤ i) (h1 : i < n) : Qv C l m ⟨d, .indexAddr t x y, ty, pos, af, g⟩ (.pointer (A.map (·.add i.toNat))) := fun ev hev w _ => by
  cases A with
  | none => exact absurd (hA (by omega)) (by simp)
  | some a =>
    cases hq : C.P.info? e with
    | none => simp [hq] at he
    | some inf =>
      have hs : inf.size = 1 := by simpa [hq] using he
      simp [execOp, hev x _ hx, hev y _ hy, Instr.indexAt, asIntOf, run_underlying ht, h0, h1, sizeOf, typeInfo, hq, hs]

end q

/-! ### Reading -/

/-- What lies in a slice can be read: its elements have one cell each. -/
def Rd (w0 : World) (m : List Res) (A : Option Addr) (xs : List Value) : Prop := ∀ w, Mem w0 m w → ∀ j v, xs[j]? = some v → ∃ a, A = some a ∧ w.cell? (a.add j) = some v

theorem Rd.app {w0 : World} {m0 : List Res} {A : Option Addr} {xs : List Value} (h : Rd w0 m0 A xs) (m : List Res) : Rd w0 (m ++ m0) A xs := fun w hw => h w (Mem.appR hw)
theorem Rd.cons {w0 : World} {m0 : List Res} {A : Option Addr} {xs : List Value} (h : Rd w0 m0 A xs) (r : Res) : Rd w0 (r :: m0) A xs := fun w hw => h w (Mem.tail hw)
theorem Rd.nil {w0 : World} {m0 : List Res} (A : Option Addr) : Rd w0 m0 A [] := fun _ _ j v h => by simp at h
theorem Rd.own {w0 : World} {m : List Res} {A : Option Addr} {c n : Nat} {xs : List Value} {e : TypeId} (i : Nat) (hi : m[i]? = some (.own A c n xs e 1)) : Rd w0 m A xs := fun w hw j v hv => by
  have h := hw.all i _ hi
  cases A with
  | none =>
    rcases h.2 with ⟨h1, h2⟩ | ⟨g, cap, cur, h1, _⟩
    · have := h.1
      rw [h2] at this
      have : xs = [] := List.eq_nil_of_length_eq_zero (by simpa using this)
      subst this
      simp at hv
    · simp at h1
  | some a =>
    refine ⟨a, rfl, ?_⟩
    rcases h.2 with ⟨h1, _⟩ | ⟨g, cap, cur, h1, _⟩
    · simp at h1
    · have e1 : a = ⟨g, 0, none⟩ := by simpa using (by injection h1 : some a = some ⟨g, 0, none⟩)
      subst e1
      exact World.ownsRow.cells h (g := g) rfl j v hv
theorem Rd.blk {w0 : World} {m : List Res} {g : Nat} {cs : List Value} {e : TypeId} (i : Nat) (hi : m[i]? = some (.blk g cs e)) : Rd w0 m (some ⟨g, 0, none⟩) cs := fun w hw j v hv => by
  have h := hw.all i _ hi
  refine ⟨_, rfl, ?_⟩
  rw [show (⟨g, 0, none⟩ : Addr).add j = ⟨g, j, none⟩ by unfold Addr.add; split <;> simp_all]
  rw [cell_of_row w g j cs.toArray e (0, 0) h.2]
  simpa using hv

section q
variable {d : Option Nat} {ty : TypeId} {pos : String} {af : Array Edge} {g : Option (Nat × Bool)}

def oneTy : TypeDesc → Bool
  | .struct _ | .array _ _ => false
  | _ => true

theorem run_loadVar_one {P : Program} {t : TypeId} {dd : TypeDesc} (ht : P.underlying t = some dd) (h1 : oneTy dd = true) (a : Addr) (w : World) : (loadVar t a).run P w = (load a).run P w := by
  have : (isAgg t).run P w = .ok false w := by
    unfold isAgg
    rw [Sem.run_bind, run_underlying ht w]
    cases dd <;> simp_all [oneTy]
  simp [loadVar, this]

theorem Qv.load_at {x : Operand} {t : TypeId} {dd : TypeDesc} {a : Addr} {v : Value} (ht : C.P.underlying t = some dd) (h1 : oneTy dd = true) (hx : opv l x = some (.pointer (some a))) (hc : ∀ w, Mem C.w0 (m ++ C.m0) w → w.cell? a = some v) :
    Qv C l m ⟨d, .load t x, ty, pos, af, g⟩ v := fun ev hev w hw => by
  simp [execOp, hev x _ hx, Instr.loadAt, Instr.sureAddr, run_loadVar_one ht h1, hc w hw]

theorem Qv.load_rd {x : Operand} {t : TypeId} {dd : TypeDesc} {A : Option Addr} {i : Nat} {xs : List Value} {v : Value} (ht : C.P.underlying t = some dd) (h1 : oneTy dd = true) (hx : opv l x = some (.pointer (A.map (·.add i)))) (hr : Rd C.w0 (m ++ C.m0) A xs) (hv : xs[i]? = some v) :
    Qv C l m ⟨d, .load t x, ty, pos, af, g⟩ v := fun ev hev w hw => by
  obtain ⟨a, rfl, hc⟩ := hr w hw i v hv
  simp [execOp, hev x _ hx, Instr.loadAt, Instr.sureAddr, run_loadVar_one ht h1, hc]

/-- A cell of a known block. -/
theorem Qv.load_blk {x : Operand} {t : TypeId} {dd : TypeDesc} {b o i : Nat} {cs : List Value} {e : TypeId} {v : Value} (ht : C.P.underlying t = some dd) (h1 : oneTy dd = true) (hx : opv l x = some (.pointer (some ⟨b, o, none⟩))) (hi : m[i]? = some (.blk b cs e)) (hv : cs[o]? = some v) :
    Qv C l m ⟨d, .load t x, ty, pos, af, g⟩ v :=
  Qv.load_at ht h1 hx fun w hw => by
    have h := (Mem.appL hw).all i _ hi
    rw [cell_of_row w b o cs.toArray e (0, 0) h.2]
    simpa using hv

/-- A whole block that is a struct's or an array's. -/
theorem Qv.load_all {x : Operand} {t : TypeId} {dd : TypeDesc} {b i : Nat} {cs : List Value} {e : TypeId} (ht : C.P.underlying t = some dd) (h1 : oneTy dd = false) (hz : (C.P.info? t).map (·.size) = some cs.length) (hx : opv l x = some (.pointer (some ⟨b, 0, none⟩))) (hi : m[i]? = some (.blk b cs e)) :
    Qv C l m ⟨d, .load t x, ty, pos, af, g⟩ (.agg cs.toArray) := fun ev hev w hw => by
  have h := (Mem.appL hw).all i _ hi
  have hr := run_loadVar_row (P := C.P) w b e t cs.toArray (0, 0) dd h.2 ht (by cases dd <;> simp_all [oneTy]) (by simpa using hz)
  simp [execOp, hev x _ hx, Instr.loadAt, Instr.sureAddr, hr]

/-- A string's byte. -/
theorem Qv.index_str {x y : Operand} {t : TypeId} {s : ByteArray} {k : IntKind} {i : Int} {v : UInt8} (ht : C.P.underlying t = some .string) (hx : opv l x = some (.string s)) (hy : opv l y = some (.int k i)) (h0 : 0 ≤ i) (hv : s.data[i.toNat]? = some v) :
    Qv C l m ⟨d, .index t x y, ty, pos, af, g⟩ (.int .u8 v.toNat) :=
  Qv.index hx hy fun w => by
    obtain ⟨hlt, e⟩ := Array.getElem?_eq_some_iff.1 hv
    have hlt' : i.toNat < s.size := hlt
    rw [run_index_string w t s k i ht, dif_pos ⟨h0, by omega⟩]
    rw [← e]; rfl
end q

/-! ### Operations that make or write memory -/
section e
variable {d : Option Nat} {ty : TypeId} {pos : String} {af : Array Edge} {g : Option (Nat × Bool)}

theorem Ev.alloc {e : TypeId} {cs : List Value} {z : Value} (hz : ∀ w, (zeroValue e).run C.P w = .ok z w) (hc : z.cells.toList = cs) :
    Ev (α := Nat) C l m ⟨d, .alloc e, ty, pos, af, g⟩ (fun _ => True) (fun b => .pointer (some ⟨b, 0, none⟩)) (fun b => .blk b cs e :: m) := fun ev hev w hw => by
  refine ⟨w.heap.size, w.alloc (.cells cs.toArray e), trivial, ?_, Mem.alloc hw cs e⟩
  subst hc
  simp [execOp, Instr.alloc, hz w, newVar, newRow]

theorem Ev.box {e : TypeId} {x : Operand} {v : Value} {cs : List Value} (hx : opv l x = some v) (hc : v.cells.toList = cs) :
    Ev (α := Nat) C l m ⟨d, .box e x, ty, pos, af, g⟩ (fun _ => True) (fun b => .pointer (some ⟨b, 0, none⟩)) (fun b => .blk b cs e :: m) := fun ev hev w hw => by
  refine ⟨w.heap.size, w.alloc (.cells cs.toArray e), trivial, ?_, Mem.alloc hw cs e⟩
  subst hc
  simp [execOp, hev x _ hx, Instr.box, newVar, newRow]

theorem Ev.buildSlice {t e : TypeId} {n : Nat} {ps : List (Nat × Operand)} {vs : List (Nat × Value)} {cs : List Value} (hps : opps l ps = some vs)
    (hr : ∀ w, (Instr.buildSlice t n vs.toArray).run C.P w = .ok (.slice (some ⟨w.heap.size, 0, none⟩) n n) (w.alloc (.cells cs.toArray e))) :
    Ev (α := Nat) C l m ⟨d, .buildSlice t n ps.toArray, ty, pos, af, g⟩ (fun _ => True) (fun b => .slice (some ⟨b, 0, none⟩) n n) (fun b => .blk b cs e :: m) := fun ev hev w hw => by
  refine ⟨w.heap.size, w.alloc (.cells cs.toArray e), trivial, ?_, Mem.alloc hw cs e⟩
  have := opps_map hev ps vs hps
  simp only [execOp, List.map_toArray, this, Sem.run_bind, hr w, Result.andThen_ok, Sem.run_pure]

/-- .. as a slice that the call owns. -/
theorem Ev.buildOwn {t e : TypeId} {n : Nat} {ps : List (Nat × Operand)} {vs : List (Nat × Value)} {cs : List Value} {sz : Nat} (hps : opps l ps = some vs)
    (hr : ∀ w, (Instr.buildSlice t n vs.toArray).run C.P w = .ok (.slice (some ⟨w.heap.size, 0, none⟩) n n) (w.alloc (.cells cs.toArray e))) (hl : cs.length = n * sz) (hn : n ≤ maxLen) :
    Ev (α := Nat) C l m ⟨d, .buildSlice t n ps.toArray, ty, pos, af, g⟩ (fun _ => True) (fun b => .slice (some ⟨b, 0, none⟩) n n) (fun b => .own (some ⟨b, 0, none⟩) n n cs e sz :: m) := fun ev hev w hw => by
  refine ⟨w.heap.size, w.alloc (.cells cs.toArray e), trivial, ?_, ?_⟩
  · have := opps_map hev ps vs hps
    simp only [execOp, List.map_toArray, this, Sem.run_bind, hr w, Result.andThen_ok, Sem.run_pure]
  · refine hw.add (World.grownBy_alloc w _ none) ⟨hl, .inr ⟨w.heap.size, n, cs.toArray, rfl, hw.bnd, heap_alloc_new w _, Nat.le_refl _, hn, by simpa using hl, ?_⟩⟩ (fun k hk => by simp [Res.block] at hk; omega)
    simp [← hl]

theorem grownBy_setRow {w : World} {b : Nat} (cs : Array Value) : w.grownBy (w.setRow b cs) (some b) := ⟨rfl, rfl, rfl, by simp, fun k _ hk => setRow_other w b k cs (fun e => hk (by rw [e]))⟩

/-- A store of one cell into a known block. -/
theorem Sv.store_blk {x y : Operand} {t : TypeId} {b o i : Nat} {cs : List Value} {e : TypeId} {v : Value} {m' : List Res} (hz : (C.P.info? t).map (·.size) = some 1) (hx : opv l x = some (.pointer (some ⟨b, o, none⟩))) (hy : opv l y = some v) (h1 : v.oneCell' = true)
    (hi : m[i]? = some (.blk b cs e)) (ho : o < cs.length) (hm : m.set i (.blk b (cs.set o v) e) = m') : Sv C l m ⟨d, .store t x y, ty, pos, af, g⟩ m' := fun ev hev w hw => by
  have hlt : i < m.length := (List.getElem?_eq_some_iff.1 hi).1
  have hi' : (m ++ C.m0)[i]? = some (.blk b cs e) := by rw [List.getElem?_append_left hlt]; exact hi
  have h := hw.all i _ hi'
  have hcell : w.cell? ⟨b, o, none⟩ = some cs[o] := by rw [cell_of_row w b o cs.toArray e (0, 0) h.2]; simp [ho]
  have hfro := frozen_of_row w b o cs.toArray e h.2
  have hset := setCell_eq_setRow w b o cs.toArray e (0, 0) v h.2
  have hcells : v.cells = #[v] := by cases v <;> simp_all [Value.cells, Value.oneCell']
  cases hq : C.P.info? t with
  | none => simp [hq] at hz
  | some inf =>
    have hs : inf.size = 1 := by simpa [hq] using hz
    refine ⟨w.setRow b (cs.toArray.setIfInBounds o v), ?_, ?_⟩
    · have hst : (store ⟨b, o, none⟩ v).run C.P w = .ok () (w.setRow b (cs.toArray.setIfInBounds o v)) := by
        rw [run_store C.P w ⟨b, o, none⟩ v _ h1]
        simp [stored, hcell, hfro, hset]
      simp [execOp, hev x _ hx, hev y _ hy, Instr.storeAt, Instr.sureAddr, storeVar, sizeOf, typeInfo, hq, hs, hcells, storeCells, Addr.add_zero', hst]
    · rw [← hm, ← List.set_append_left _ _ hlt]
      refine hw.upd hi' (grownBy_setRow _) ⟨h.1, ?_⟩ (fun k hk => .inl hk)
      have := setRow_heap w b cs.toArray (cs.toArray.setIfInBounds o v) e (0, 0) h.2
      simpa using this

/-- A store of a whole struct or array. -/
theorem Sv.store_all {x y : Operand} {t : TypeId} {b i : Nat} {cs us : List Value} {e : TypeId} {m' : List Res} (hz : (C.P.info? t).map (·.size) = some us.length) (hx : opv l x = some (.pointer (some ⟨b, 0, none⟩))) (hy : opv l y = some (.agg us.toArray)) (h1 : us.all (·.oneCell') = true)
    (hi : m[i]? = some (.blk b cs e)) (hl : cs.length = us.length) (hm : m.set i (.blk b us e) = m') : Sv C l m ⟨d, .store t x y, ty, pos, af, g⟩ m' := fun ev hev w hw => by
  have hlt : i < m.length := (List.getElem?_eq_some_iff.1 hi).1
  have hi' : (m ++ C.m0)[i]? = some (.blk b cs e) := by rw [List.getElem?_append_left hlt]; exact hi
  have h := hw.all i _ hi'
  have hr := run_storeVar_row (P := C.P) w b t e cs.toArray us.toArray h.2 (by simpa using hl) (by simpa using hz) (by simpa using h1)
  refine ⟨w.setRow b us.toArray, ?_, ?_⟩
  · simp [execOp, hev x _ hx, hev y _ hy, Instr.storeAt, Instr.sureAddr, hr]
  · rw [← hm, ← List.set_append_left _ _ hlt]
    exact hw.upd hi' (grownBy_setRow _) ⟨h.1, setRow_heap w b cs.toArray us.toArray e (0, 0) h.2⟩ (fun k hk => .inl hk)

/-- append(s, x...): s a slice of the call's own, x one that can be read. -/
theorem Ev.append {s x : Operand} {t e : TypeId} {inf : TypeInfo} {z : Value} {A B : Option Addr} {c c' n k i by_ : Nat} {xs ys : List Value}
    (ht : C.P.underlying t = some (.slice e)) (hi : C.P.info? e = some inf) (hz : inf.zero = some z) (hsz : inf.size = 1) (hby : inf.bytes = by_) (hzs : z.cells.size = 1)
    (hs : opv l s = some (.slice A n c)) (hx : opv l x = some (.slice B k c')) (hm : m[i]? = some (.own A c n xs e 1)) (hr : Rd C.w0 (m ++ C.m0) B ys) (hk : ys.length = k) (h1 : ys.all (·.oneCell') = true)
    (h63 : n + k ≤ maxLen) (hbb : (n + k) * by_ ≤ 140737488355328) :
    Ev (α := Option Addr × Nat) C l m ⟨d, .call { callee := .builtin .append, args := #[s, x], argTypes := #[t, t] }, ty, pos, af, g⟩ (fun p => p = (none, 0) ↔ (n = 0 ∧ k = 0 ∧ A = none)) (fun p => .slice p.1 (n + k) p.2) (fun p => m.set i (.own p.1 p.2 (n + k) (xs ++ ys) e 1)) := fun ev hev w hw => by
  have hlt : i < m.length := (List.getElem?_eq_some_iff.1 hm).1
  have hm' : (m ++ C.m0)[i]? = some (.own A c n xs e 1) := by rw [List.getElem?_append_left hlt]; exact hm
  have hown : w.ownsRow C.w0.heap.size e 1 (.slice A n c) n xs := hw.all i _ hm'
  have hA : A = none → n = 0 ∧ c = 0 := by
    rintro rfl
    rcases hown.2 with ⟨h1, h2⟩ | ⟨g, cap, cur, h1, _⟩
    · injection h1 with _ _ h3
      exact ⟨h2, h3⟩
    · simp at h1
  cases B with
  | none =>
    have hy : ys = [] := by
      cases hys : ys with
      | nil => rfl
      | cons y r =>
        obtain ⟨a, ha, _⟩ := hr w hw 0 y (by simp [hys])
        simp at ha
    subst hy
    have hk0 : k = 0 := by simpa using hk.symm
    subst hk0
    refine ⟨(A, c), w, ?_, ?_, ?_⟩
    · constructor
      · intro h
        obtain ⟨h1, h2⟩ := Prod.mk.inj h
        have h3 := hA h1
        exact ⟨h3.1, rfl, h1⟩
      · rintro ⟨h1, _, h2⟩
        rw [h2, (hA h2).2]
    · have hrun : (Builtin.append_ #[t, t] ty #[.slice A n c, .slice none 0 c']).run C.P w = .ok (.slice A n c) w := by
        rcases hown.2 with ⟨hv, rfl⟩ | ⟨g, cap, cur, hv, _, _, hnc, _⟩
        · injection hv with h1 h2 h3
          subst h1 h3
          simp [Builtin.append_, run_underlying ht, sizeOf, typeInfo, hi, Builtin.lenOf, Builtin.firstCells]
        · injection hv with h1 h2 h3
          subst h1 h3
          simp [Builtin.append_, run_underlying ht, sizeOf, typeInfo, hi, Builtin.lenOf, Builtin.firstCells, hnc, storeCells]
      simp [execOp, resolve, invoke, builtin, hev s _ hs, hev x _ hx, hrun]
    · rw [← List.set_append_left _ _ hlt]
      refine hw.upd hm' ⟨rfl, rfl, rfl, Nat.le_refl _, fun _ _ _ => rfl⟩ ?_ (fun g hg => .inl hg)
      simpa [Res.at] using hown
  | some a =>
    have hnews : ∀ j u, ys[j]? = some u → w.cell? (a.add j) = some u := fun j u hu => by
      obtain ⟨a', ha, hc⟩ := hr w hw j u hu
      cases ha
      exact hc
    obtain ⟨v', w', hrun, h2, h3, h4, h5⟩ := run_append_own_at (P := C.P) w C.w0.heap.size t ty e inf z 1 by_ ht hi hz hsz hby hzs (by decide) (.slice A n c) n xs hown a k c' ys (by simpa using hk) hnews (by simpa using h1) h63 hbb hw.bnd
    have hform : ∃ p : Option Addr × Nat, v' = .slice p.1 (n + k) p.2 := by
      rcases h2.2 with ⟨h, h'⟩ | ⟨g, cap, cur, h, _⟩
      · exact ⟨(none, 0), by rw [h, h']⟩
      · exact ⟨(some ⟨g, 0, none⟩, cap), h⟩
    obtain ⟨p, rfl⟩ := hform
    have hblk : ∀ (q : Option Addr) (u c : Nat), Value.ownBlock (.slice q u c) = q.map (·.block) := by intro q u c; cases q <;> rfl
    refine ⟨p, w', ?_, ?_, ?_⟩
    · constructor
      · intro h
        subst h
        have hnk : n + k = 0 := by
          rcases h2.2 with ⟨_, h'⟩ | ⟨g, cap, cur, h, _⟩
          · exact h'
          · simp at h
        have hv : Value.slice none (n + k) 0 = .slice none 0 0 := by rw [hnk]
        have := (h4.1 hv).1
        injection this with q1 q2 q3
        exact ⟨by omega, by omega, q1⟩
      · rintro ⟨rfl, rfl, rfl⟩
        have hc := (hA rfl).2
        subst hc
        have := h4.2 ⟨rfl, rfl⟩
        injection this with q1 q2 q3
        exact Prod.ext q1 q3
    · simp [execOp, resolve, invoke, builtin, hev s _ hs, hev x _ hx, hrun]
    · rw [← List.set_append_left _ _ hlt]
      refine hw.upd hm' (by rw [hblk] at h3; exact h3) h2 ?_
      intro g hg
      rw [hblk, hblk] at h5
      have hg' : p.1.map (·.block) = some g := hg
      rcases h5 with h5 | h5
      · left; show A.map (·.block) = some g; rw [← h5]; exact hg'
      · right
        rw [h5] at hg'
        have := Option.some.inj hg'
        omega
end e
end


/-- The function has a text of its own. -/
def Ent (P : Program) (f : FuncId) : Prop := ∃ fn, P.funcs[f]? = some fn ∧ (fn.name == "runtime.NumGoroutine") = false ∧ fn.body.isNone = false

/-- What a call comes to: some x makes out its value and the memory behind it. -/
def sp {α : Type} (w0 : World) (m0 : List Res) (φ : α → Prop) (val : α → Value) (M : α → List Res) : Ending → World → Prop := fun e w' => ∃ x, φ x ∧ e = .returned (val x) ∧ Mem w0 (M x ++ m0) w'

/-- THE CONTRACT: 'm' is what the call may turn, 'm0' all else. -/
def Ct {α : Type} (P : Program) (f : FuncId) (args : List Value) (w0 : World) (m m0 : List Res) (φ : α → Prop) (val : α → Value) (M : α → List Res) : Prop :=
  Ent P f ∧ ∀ w, Mem w0 (m ++ m0) w → Calls P f args.toArray w (sp w0 m0 φ val M)

/-- One that turns nothing and makes nothing that is told. -/
abbrev PureC (P : Program) (f : FuncId) (args : List Value) (w0 : World) (m0 : List Res) (v : Value) : Prop := Ct (α := Unit) P f args w0 [] m0 (fun _ => True) (fun _ => v) (fun _ => [])

def slotsOf : Nat → List Value → List (Nat × Value)
  | _, [] => []
  | i, v :: r => (i, v) :: slotsOf (i + 1) r

theorem lk_slotsOf : ∀ (vs : List Value) (i s : Nat) (v : Value), lk s (slotsOf i vs) = some v → i ≤ s ∧ vs[s - i]? = some v
  | [], i, s, v, h => by simp [slotsOf, lk] at h
  | u :: r, i, s, v, h => by
    simp only [slotsOf, lk] at h
    cases hb : Nat.beq s i with
    | true =>
      have e := Nat.eq_of_beq_eq_true hb
      subst e
      rw [hb] at h
      simp only [cond_true, Option.some.injEq] at h
      subst h
      simp
    | false =>
      rw [hb] at h
      obtain ⟨h1, h2⟩ := lk_slotsOf r (i + 1) s v h
      refine ⟨by omega, ?_⟩
      rw [show s - i = (s - (i + 1)) + 1 by omega]
      simpa using h2

theorem fw_none : FW none = Fence.wide := rfl

section
variable {α : Type} {P : Program} {f : FuncId} {w0 : World} {m m0 : List Res} {φ : α → Prop} {val : α → Value} {M : α → List Res}

theorem Ct.of {fn : Func} {c : Code} {args : List Value} (hf : P.funcs[f]? = some fn) (hb : fn.body = some c) (hname : (fn.name == "runtime.NumGoroutine") = false) (hn : Nat.ble args.length fn.ntmps = true)
    (h : WC ⟨none, P, fn.ntmps, [], w0, m0⟩ (bodyPost P fn (sp w0 m0 φ val M)) c (slotsOf 0 args) m) : Ct P f args w0 m m0 φ val M := by
  refine ⟨⟨fn, hf, hname, by rw [hb]; rfl⟩, fun w hw => ?_⟩
  have hn' : args.length ≤ fn.ntmps := by simpa using hn
  refine calls_of_wp hf hb (wpIn_wide.1 (h _ w ⟨⟨rfl, ?_, ?_⟩, hw⟩))
  · simp; omega
  · intro s v hv
    obtain ⟨_, h2⟩ := lk_slotsOf args 0 s v hv
    have hlt := (List.getElem?_eq_some_iff.1 h2).1
    simp only [Nat.sub_zero] at h2 hlt
    rw [Array.getD_eq_getD_getElem?, Array.getElem?_append_left (by simpa using hlt)]
    simp [h2]

theorem Ct.mono {args : List Value} {β : Type} {φ' : β → Prop} {val' : β → Value} {M' : β → List Res} (h : Ct P f args w0 m m0 φ val M)
    (hx : ∀ x, φ x → ∃ y, φ' y ∧ val x = val' y ∧ ∀ w, Mem w0 (M x ++ m0) w → Mem w0 (M' y ++ m0) w) : Ct P f args w0 m m0 φ' val' M' :=
  ⟨h.1, fun w hw => (h.2 w hw).mono fun e w' ⟨x, h1, h2, h3⟩ => let ⟨y, k1, k2, k3⟩ := hx x h1; ⟨y, k1, by rw [h2, k2], k3 w' h3⟩⟩
end

section
variable {C : Cx} {Q : Po} {l : List (Nat × Value)} {m : List Res} {ops : Array Oper} {rest : List Oper}

theorem run_call {P : Program} {f : FuncId} (hE : Ent P f) {ev : Operand → Value} {d : Option Nat} {ty : TypeId} {pos : String} {af : Array Edge} {g : Option (Nat × Bool)} {fo : Operand} {xs : List Operand} {ts : Array TypeId} {vs : List Value} {cs : List Value}
    (hfo : ev fo = .func (.func f) #[] cs.toArray) (hxs : xs.map ev = vs) (w : World) :
    (execOp ev ⟨d, .call { callee := .value fo, args := xs.toArray, argTypes := ts }, ty, pos, af, g⟩).run P w = .ok (.enter f (vs ++ cs).toArray) w := by
  obtain ⟨fn, hf, hn, hb⟩ := hE
  have hn' : fn.name ≠ "runtime.NumGoroutine" := by simpa using hn
  have hb' : fn.body ≠ none := by intro e; simp [e] at hb
  simp [execOp, resolve, hfo, Deferred.ofValue, invoke, callFunc, hf, hn', hb', hxs]

theorem WX.call {α : Type} {φ : α → Prop} {val : α → Value} {M : α → List Res} {d : Nat} {ty : TypeId} {pos : String} {af : Array Edge} {g : Option (Nat × Bool)} {fo : Operand} {xs : List Operand} {ts : Array TypeId} {f : FuncId} {vs cs : List Value} {m1 m2 : List Res}
    (hfo : opv l fo = some (.func (.func f) #[] cs.toArray)) (hxs : opvs l xs = some vs) (hm : m = m1 ++ m2) (hsp : Ct C.P f (vs ++ cs) C.w0 m1 (m2 ++ C.m0) φ val M) (hdn : Nat.blt d C.n = true) (hg : wants ops l g = some true)
    (k : ∀ x, φ x → WX false C Q ops rest ((d, val x) :: l) (M x ++ m2)) : WX false C Q ops (⟨some d, .call { callee := .value fo, args := xs.toArray, argTypes := ts }, ty, pos, af, g⟩ :: rest) l m := by
  intro a w hs
  refine wpListIn_wanted (wanted_of hs.1 hg) rfl ?_
  rw [run_call hsp.1 (hs.1.eval hfo) (opvs_map (ev_of hs.1) xs vs hxs) w]
  rw [Oper.uponIn_enter]
  refine ⟨fun h => by simp [FW] at h, ?_⟩
  have hc : CallsIn Fence.wide (0 - 1) C.P f (vs ++ cs).toArray w (sp C.w0 (m2 ++ C.m0) φ val M) := callsIn_wide.2 (hsp.2 w (by rw [← List.append_assoc, ← hm]; exact hs.2))
  refine ⟨trivial, fun css hroom => ?_⟩
  obtain ⟨e, w', fr, hR, hcome, hfn, hleave⟩ := hc.2 css (room_wide _)
  refine ⟨e, w', fr, ?_, hcome, hfn, hleave⟩
  obtain ⟨x, hx, rfl, hmem⟩ := hR
  refine k x hx _ _ ⟨hs.1.put d _ hdn, ?_⟩
  rw [List.append_assoc]
  exact hmem

/-- A call that turns nothing: in a region that draws its order, too. -/
theorem WX.pure {b : Bool} {v : Value} {d : Nat} {ty : TypeId} {pos : String} {af : Array Edge} {g : Option (Nat × Bool)} {fo : Operand} {xs : List Operand} {ts : Array TypeId} {f : FuncId} {vs cs : List Value}
    (hfo : opv l fo = some (.func (.func f) #[] cs.toArray)) (hxs : opvs l xs = some vs) (hsp : PureC C.P f (vs ++ cs) C.w0 (m ++ C.m0) v) (hdn : Nat.blt d C.n = true) (hg : wants ops l g = some true)
    (k : WX b C Q ops rest ((d, v) :: l) m) : WX b C Q ops (⟨some d, .call { callee := .value fo, args := xs.toArray, argTypes := ts }, ty, pos, af, g⟩ :: rest) l m := by
  cases b
  · exact WX.call (m1 := []) (m2 := m) hfo hxs rfl hsp hdn hg (fun _ _ => k)
  · intro a hs
    refine ⟨fun w hw f hf => trivial, ?_⟩
    rw [if_pos (wanted_of hs hg)]
    refine ⟨v, fun w hw => ?_, k _ (hs.put d v hdn)⟩
    unfold Oper.quietAtIn
    rw [run_call hsp.1 (hs.eval hfo) (opvs_map (ev_of hs) xs vs hxs) w]
    refine ⟨rfl, fun h => by simp [FW] at h, ?_⟩
    have hc : CallsIn Fence.wide (0 - 1) C.P f (vs ++ cs).toArray w (sp C.w0 (m ++ C.m0) (fun _ : Unit => True) (fun _ => v) (fun _ => [])) := callsIn_wide.2 (hsp.2 w hw)
    refine ⟨trivial, fun css hroom => ?_⟩
    obtain ⟨e, w', fr, hR, hcome, hfn, hleave⟩ := hc.2 css (room_wide _)
    refine ⟨e, w', fr, ?_, hcome, hfn, hleave⟩
    obtain ⟨x, hx, rfl, hmem⟩ := hR
    exact ⟨rfl, hmem⟩

/-! ### The way back -/
section
variable {α : Type} {fn : Func} {φ : α → Prop} {val : α → Value} {M : α → List Res}

theorem WE.ret0 (x : α) (hres : fn.results = #[]) (hD : C.D = []) (hv : val x = .tuple #[]) (hφ : φ x) (hM : ∀ w, Mem C.w0 (m ++ C.m0) w → Mem C.w0 (M x ++ C.m0) w) :
    WE C (bodyPost C.P fn (sp C.w0 C.m0 φ val M)) .ret l m := fun a w hs =>
  ⟨by rw [hs.1.d, hD], .tuple #[], results_none hres _ _ _, x, hφ, by rw [hv], hM w hs.2⟩
theorem WE.end0 (x : α) (hres : fn.results = #[]) (hD : C.D = []) (hv : val x = .tuple #[]) (hφ : φ x) (hM : ∀ w, Mem C.w0 (m ++ C.m0) w → Mem C.w0 (M x ++ C.m0) w) :
    WE C (bodyPost C.P fn (sp C.w0 C.m0 φ val M)) .normal l m := fun a w hs =>
  ⟨by rw [hs.1.d, hD], .tuple #[], results_none hres _ _ _, x, hφ, by rw [hv], hM w hs.2⟩
theorem WE.ret1 {t : Nat} (x : α) (hres : fn.results = #[.tmp t]) (hD : C.D = []) (hv : lk t l = some (val x)) (hφ : φ x) (hM : ∀ w, Mem C.w0 (m ++ C.m0) w → Mem C.w0 (M x ++ C.m0) w) :
    WE C (bodyPost C.P fn (sp C.w0 C.m0 φ val M)) .ret l m := fun a w hs =>
  ⟨by rw [hs.1.d, hD], val x, by rw [results_tmp hres, hs.1.at_ t _ hv], x, hφ, rfl, hM w hs.2⟩
theorem WE.ret2 {t u : Nat} {v1 v2 : Value} (x : α) (hres : fn.results = #[.tmp t, .tmp u]) (hD : C.D = []) (h1 : lk t l = some v1) (h2 : lk u l = some v2) (hv : val x = .tuple #[v1, v2]) (hφ : φ x) (hM : ∀ w, Mem C.w0 (m ++ C.m0) w → Mem C.w0 (M x ++ C.m0) w) :
    WE C (bodyPost C.P fn (sp C.w0 C.m0 φ val M)) .ret l m := fun a w hs =>
  ⟨by rw [hs.1.d, hD], val x, by rw [results_tmp2 hres, hs.1.at_ t _ h1, hs.1.at_ u _ h2, hv], x, hφ, rfl, hM w hs.2⟩
theorem WE.ret3 {t u s : Nat} {v1 v2 v3 : Value} (x : α) (hres : fn.results = #[.tmp t, .tmp u, .tmp s]) (hD : C.D = []) (h1 : lk t l = some v1) (h2 : lk u l = some v2) (h3 : lk s l = some v3) (hv : val x = .tuple #[v1, v2, v3]) (hφ : φ x) (hM : ∀ w, Mem C.w0 (m ++ C.m0) w → Mem C.w0 (M x ++ C.m0) w) :
    WE C (bodyPost C.P fn (sp C.w0 C.m0 φ val M)) .ret l m := fun a w hs => by
  refine ⟨by rw [hs.1.d, hD], val x, ?_, x, hφ, rfl, hM w hs.2⟩
  have e1 := hs.1.at_ t _ h1
  have e2 := hs.1.at_ u _ h2
  have e3 := hs.1.at_ s _ h3
  simp only [Array.getD_eq_getD_getElem?] at e1 e2 e3
  simp [results, hres, e1, e2, e3, hv]
/-- One result that lies in a block of its own: a struct or an array. -/
theorem WE.retc {p i : Nat} {t e : TypeId} {dd : TypeDesc} {b : Nat} {cs : List Value} (x : α) (hres : fn.results = #[.cell p t]) (hD : C.D = []) (ht : C.P.underlying t = some dd) (h1 : oneTy dd = false) (hz : (C.P.info? t).map (·.size) = some cs.length)
    (hp : lk p l = some (.pointer (some ⟨b, 0, none⟩))) (hi : m[i]? = some (.blk b cs e)) (hv : val x = .agg cs.toArray) (hφ : φ x) (hM : ∀ w, Mem C.w0 (m ++ C.m0) w → Mem C.w0 (M x ++ C.m0) w) :
    WE C (bodyPost C.P fn (sp C.w0 C.m0 φ val M)) .ret l m := fun a w hs => by
  have h := (Mem.appL hs.2).all i _ hi
  refine ⟨by rw [hs.1.d, hD], val x, ?_, x, hφ, rfl, hM w hs.2⟩
  rw [hv]
  exact results_cell_row hres _ w b e cs.toArray (0, 0) dd (hs.1.at_ p _ hp) h.2 ht (by cases dd <;> simp_all [oneTy]) (by simpa using hz)
/-- A struct or an array, and a second result beside it. -/
theorem WE.retc2 {p u i : Nat} {t e : TypeId} {dd : TypeDesc} {b : Nat} {cs : List Value} {v2 : Value} (x : α) (hres : fn.results = #[.cell p t, .tmp u]) (hD : C.D = []) (ht : C.P.underlying t = some dd) (h1 : oneTy dd = false) (hz : (C.P.info? t).map (·.size) = some cs.length)
    (hp : lk p l = some (.pointer (some ⟨b, 0, none⟩))) (hi : m[i]? = some (.blk b cs e)) (h2 : lk u l = some v2) (hv : val x = .tuple #[.agg cs.toArray, v2]) (hφ : φ x) (hM : ∀ w, Mem C.w0 (m ++ C.m0) w → Mem C.w0 (M x ++ C.m0) w) :
    WE C (bodyPost C.P fn (sp C.w0 C.m0 φ val M)) .ret l m := fun a w hs => by
  have h := (Mem.appL hs.2).all i _ hi
  have hr := run_loadVar_row (P := C.P) w b e t cs.toArray (0, 0) dd h.2 ht (by cases dd <;> simp_all [oneTy]) (by simpa using hz)
  refine ⟨by rw [hs.1.d, hD], val x, ?_, x, hφ, rfl, hM w hs.2⟩
  have e1 := hs.1.at_ p _ hp
  have e2 := hs.1.at_ u _ h2
  simp only [Array.getD_eq_getD_getElem?] at e1 e2
  simp [results, hres, e1, e2, hv, asAddr, hr]
end
end

/-! ### Small words for the walks -/
theorem Mem.keep {w0 : World} {m m0 : List Res} : ∀ w, Mem w0 (m ++ m0) w → Mem w0 (m ++ m0) w := fun _ h => h
theorem Mem.drop {w0 : World} {m m0 : List Res} : ∀ w, Mem w0 (m ++ m0) w → Mem w0 ([] ++ m0) w := fun _ h => Mem.appR h
theorem Mem.pick {w0 : World} {m m0 m' : List Res} (is : List Nat) (hnd : is.Nodup) (hm : is.map (m[·]?) = m'.map some) : ∀ w, Mem w0 (m ++ m0) w → Mem w0 (m' ++ m0) w := fun _ h => h.sel is hnd hm

theorem Mem.addNil {w0 : World} {m m0 : List Res} (e : TypeId) (sz : Nat) : ∀ w, Mem w0 (m ++ m0) w → Mem w0 ((.own none 0 0 [] e sz :: m) ++ m0) w := fun w h =>
  h.add ⟨rfl, rfl, rfl, Nat.le_refl _, fun _ _ _ => rfl⟩ (World.ownsRow_nil w _ e sz) (fun g hg => by simp [Res.block] at hg)
theorem Mem.nilOwn {w0 : World} {m m0 : List Res} (e : TypeId) (sz : Nat) : ∀ w, Mem w0 (m ++ m0) w → Mem w0 ([.own none 0 0 [] e sz] ++ m0) w := fun w h => Mem.addNil (m := []) e sz w (Mem.drop w h)

theorem wadd64 {a b : Int} (h : -9223372036854775808 ≤ a + b ∧ a + b ≤ 9223372036854775807) : IntKind.i64.wrap (a + b) = a + b := IntWalk.i64_in _ h
theorem wsub64 {a b : Int} (h : -9223372036854775808 ≤ a - b ∧ a - b ≤ 9223372036854775807) : IntKind.i64.wrap (a - b) = a - b := IntWalk.i64_in _ h
theorem wmul64 {a b : Int} (h : -9223372036854775808 ≤ a * b ∧ a * b ≤ 9223372036854775807) : IntKind.i64.wrap (a * b) = a * b := IntWalk.i64_in _ h
theorem wadd32 {a b : Int} (h : -2147483648 ≤ a + b ∧ a + b ≤ 2147483647) : IntKind.i32.wrap (a + b) = a + b := IntWalk.i32_in _ h
theorem wsub32 {a b : Int} (h : -2147483648 ≤ a - b ∧ a - b ≤ 2147483647) : IntKind.i32.wrap (a - b) = a - b := IntWalk.i32_in _ h


def okk (ops : Array Oper) (l : List (Nat × Value)) (g : Option (Nat × Bool)) (d n : Nat) : Bool := Nat.blt d n && (match wants ops l g with | some true => true | _ => false)
theorem okk_1 {ops : Array Oper} {l : List (Nat × Value)} {g : Option (Nat × Bool)} {d n : Nat} (h : okk ops l g d n = true) : Nat.blt d n = true := by simp only [okk, Bool.and_eq_true] at h; exact h.1
theorem okk_2 {ops : Array Oper} {l : List (Nat × Value)} {g : Option (Nat × Bool)} {d n : Nat} (h : okk ops l g d n = true) : wants ops l g = some true := by
  simp only [okk, Bool.and_eq_true] at h
  have h2 := h.2
  split at h2
  · assumption
  · cases h2

section
variable {C : Cx} {Q : Po} {l : List (Nat × Value)} {m : List Res} {ops : Array Oper} {rest : List Oper} {b : Bool} {d : Nat} {ty : TypeId} {pos : String} {af : Array Edge} {g : Option (Nat × Bool)} {t t' : TypeId} {x y z : Operand} {k : IntKind} {p q r : Int} {v u : Value}

theorem r_mv (hx : opv l x = some v) (h : okk ops l g d C.n = true) (c : WX b C Q ops rest ((d, v) :: l) m) : WX b C Q ops (⟨some d, .move x, ty, pos, af, g⟩ :: rest) l m := WX.q (Qv.move hx) rfl (okk_1 h) (okk_2 h) rfl c
theorem r_as (hx : opv l x = some v) (h : okk ops l g d C.n = true) (c : WX b C Q ops rest ((d, v) :: l) m) : WX b C Q ops (⟨some d, .assign x, ty, pos, af, g⟩ :: rest) l m := WX.q (Qv.assign hx) rfl (okk_1 h) (okk_2 h) rfl c
theorem r_sk {o : Op} (hg : wants ops l g = some false) (hd : Nat.blt d C.n = true) (c : WX b C Q ops rest ((d, undef) :: l) m) : WX b C Q ops (⟨some d, o, ty, pos, af, g⟩ :: rest) l m := WX.skip rfl hd hg c
theorem r_pT (hx : opv l x = some (.bool true)) (hy : opv l y = some v) (h : okk ops l g d C.n = true) (c : WX b C Q ops rest ((d, v) :: l) m) : WX b C Q ops (⟨some d, .pick x y z, ty, pos, af, g⟩ :: rest) l m := WX.q (Qv.pick_t hx hy) rfl (okk_1 h) (okk_2 h) rfl c
theorem r_pF (hx : opv l x = some (.bool false)) (hy : opv l z = some v) (h : okk ops l g d C.n = true) (c : WX b C Q ops rest ((d, v) :: l) m) : WX b C Q ops (⟨some d, .pick x y z, ty, pos, af, g⟩ :: rest) l m := WX.q (Qv.pick_f hx hy) rfl (okk_1 h) (okk_2 h) rfl c
theorem r_ex {i : Nat} {vs : List Value} (hx : opv l x = some (.tuple vs.toArray)) (hi : vs[i]? = some v) (h : okk ops l g d C.n = true) (c : WX b C Q ops rest ((d, v) :: l) m) : WX b C Q ops (⟨some d, .extract x i, ty, pos, af, g⟩ :: rest) l m := WX.q (Qv.extract hx (by simpa using hi)) rfl (okk_1 h) (okk_2 h) rfl c
theorem r_no {e e' : Bool} (hx : opv l x = some (.bool e)) (hv : (!e) = e') (h : okk ops l g d C.n = true) (c : WX b C Q ops rest ((d, .bool e') :: l) m) : WX b C Q ops (⟨some d, .unOp .not t x, ty, pos, af, g⟩ :: rest) l m := by subst hv; exact WX.q (Qv.not_ hx) rfl (okk_1 h) (okk_2 h) rfl c
theorem r_nc {a : Addr} (hx : opv l x = some (.pointer (some a))) (h : okk ops l g d C.n = true) (c : WX b C Q ops rest ((d, .pointer (some a)) :: l) m) : WX b C Q ops (⟨some d, .nilCheck x, ty, pos, af, g⟩ :: rest) l m := WX.q (Qv.nilCheck hx) rfl (okk_1 h) (okk_2 h) rfl c

theorem r_ltT (hx : opv l x = some (.int k p)) (hy : opv l y = some (.int k q)) (h : okk ops l g d C.n = true) (hc : p < q) (c : WX b C Q ops rest ((d, .bool true) :: l) m) : WX b C Q ops (⟨some d, .binOp .lss t x y t', ty, pos, af, g⟩ :: rest) l m := WX.q (Qv.lss_t hx hy hc) rfl (okk_1 h) (okk_2 h) rfl c
theorem r_ltF (hx : opv l x = some (.int k p)) (hy : opv l y = some (.int k q)) (h : okk ops l g d C.n = true) (hc : ¬ p < q) (c : WX b C Q ops rest ((d, .bool false) :: l) m) : WX b C Q ops (⟨some d, .binOp .lss t x y t', ty, pos, af, g⟩ :: rest) l m := WX.q (Qv.lss_f hx hy hc) rfl (okk_1 h) (okk_2 h) rfl c
theorem r_leT (hx : opv l x = some (.int k p)) (hy : opv l y = some (.int k q)) (h : okk ops l g d C.n = true) (hc : p ≤ q) (c : WX b C Q ops rest ((d, .bool true) :: l) m) : WX b C Q ops (⟨some d, .binOp .leq t x y t', ty, pos, af, g⟩ :: rest) l m := WX.q (Qv.leq_t hx hy hc) rfl (okk_1 h) (okk_2 h) rfl c
theorem r_leF (hx : opv l x = some (.int k p)) (hy : opv l y = some (.int k q)) (h : okk ops l g d C.n = true) (hc : ¬ p ≤ q) (c : WX b C Q ops rest ((d, .bool false) :: l) m) : WX b C Q ops (⟨some d, .binOp .leq t x y t', ty, pos, af, g⟩ :: rest) l m := WX.q (Qv.leq_f hx hy hc) rfl (okk_1 h) (okk_2 h) rfl c
theorem r_gtT (hx : opv l x = some (.int k p)) (hy : opv l y = some (.int k q)) (h : okk ops l g d C.n = true) (hc : p > q) (c : WX b C Q ops rest ((d, .bool true) :: l) m) : WX b C Q ops (⟨some d, .binOp .gtr t x y t', ty, pos, af, g⟩ :: rest) l m := WX.q (Qv.gtr_t hx hy hc) rfl (okk_1 h) (okk_2 h) rfl c
theorem r_gtF (hx : opv l x = some (.int k p)) (hy : opv l y = some (.int k q)) (h : okk ops l g d C.n = true) (hc : ¬ p > q) (c : WX b C Q ops rest ((d, .bool false) :: l) m) : WX b C Q ops (⟨some d, .binOp .gtr t x y t', ty, pos, af, g⟩ :: rest) l m := WX.q (Qv.gtr_f hx hy hc) rfl (okk_1 h) (okk_2 h) rfl c
theorem r_geT (hx : opv l x = some (.int k p)) (hy : opv l y = some (.int k q)) (h : okk ops l g d C.n = true) (hc : p ≥ q) (c : WX b C Q ops rest ((d, .bool true) :: l) m) : WX b C Q ops (⟨some d, .binOp .geq t x y t', ty, pos, af, g⟩ :: rest) l m := WX.q (Qv.geq_t hx hy hc) rfl (okk_1 h) (okk_2 h) rfl c
theorem r_geF (hx : opv l x = some (.int k p)) (hy : opv l y = some (.int k q)) (h : okk ops l g d C.n = true) (hc : ¬ p ≥ q) (c : WX b C Q ops rest ((d, .bool false) :: l) m) : WX b C Q ops (⟨some d, .binOp .geq t x y t', ty, pos, af, g⟩ :: rest) l m := WX.q (Qv.geq_f hx hy hc) rfl (okk_1 h) (okk_2 h) rfl c
theorem r_eqT (hx : opv l x = some (.int k p)) (hy : opv l y = some (.int k q)) (h : okk ops l g d C.n = true) (hc : p = q) (c : WX b C Q ops rest ((d, .bool true) :: l) m) : WX b C Q ops (⟨some d, .binOp .eql t x y t', ty, pos, af, g⟩ :: rest) l m := WX.q (Qv.eql_t hx hy hc) rfl (okk_1 h) (okk_2 h) rfl c
theorem r_eqF (hx : opv l x = some (.int k p)) (hy : opv l y = some (.int k q)) (h : okk ops l g d C.n = true) (hc : ¬ p = q) (c : WX b C Q ops rest ((d, .bool false) :: l) m) : WX b C Q ops (⟨some d, .binOp .eql t x y t', ty, pos, af, g⟩ :: rest) l m := WX.q (Qv.eql_f hx hy hc) rfl (okk_1 h) (okk_2 h) rfl c
theorem r_neT (hx : opv l x = some (.int k p)) (hy : opv l y = some (.int k q)) (h : okk ops l g d C.n = true) (hc : ¬ p = q) (c : WX b C Q ops rest ((d, .bool true) :: l) m) : WX b C Q ops (⟨some d, .binOp .neq t x y t', ty, pos, af, g⟩ :: rest) l m := WX.q (Qv.neq_t hx hy hc) rfl (okk_1 h) (okk_2 h) rfl c
theorem r_neF (hx : opv l x = some (.int k p)) (hy : opv l y = some (.int k q)) (h : okk ops l g d C.n = true) (hc : p = q) (c : WX b C Q ops rest ((d, .bool false) :: l) m) : WX b C Q ops (⟨some d, .binOp .neq t x y t', ty, pos, af, g⟩ :: rest) l m := WX.q (Qv.neq_f hx hy hc) rfl (okk_1 h) (okk_2 h) rfl c

theorem r_ltC (hx : opv l x = some (.int k p)) (hy : opv l y = some (.int k q)) (h : okk ops l g d C.n = true) (c1 : p < q → WX b C Q ops rest ((d, .bool true) :: l) m) (c2 : ¬ p < q → WX b C Q ops rest ((d, .bool false) :: l) m) : WX b C Q ops (⟨some d, .binOp .lss t x y t', ty, pos, af, g⟩ :: rest) l m := by
  by_cases hc : p < q
  · exact r_ltT hx hy h hc (c1 hc)
  · exact r_ltF hx hy h hc (c2 hc)
theorem r_leC (hx : opv l x = some (.int k p)) (hy : opv l y = some (.int k q)) (h : okk ops l g d C.n = true) (c1 : p ≤ q → WX b C Q ops rest ((d, .bool true) :: l) m) (c2 : ¬ p ≤ q → WX b C Q ops rest ((d, .bool false) :: l) m) : WX b C Q ops (⟨some d, .binOp .leq t x y t', ty, pos, af, g⟩ :: rest) l m := by
  by_cases hc : p ≤ q
  · exact r_leT hx hy h hc (c1 hc)
  · exact r_leF hx hy h hc (c2 hc)
theorem r_gtC (hx : opv l x = some (.int k p)) (hy : opv l y = some (.int k q)) (h : okk ops l g d C.n = true) (c1 : p > q → WX b C Q ops rest ((d, .bool true) :: l) m) (c2 : ¬ p > q → WX b C Q ops rest ((d, .bool false) :: l) m) : WX b C Q ops (⟨some d, .binOp .gtr t x y t', ty, pos, af, g⟩ :: rest) l m := by
  by_cases hc : p > q
  · exact r_gtT hx hy h hc (c1 hc)
  · exact r_gtF hx hy h hc (c2 hc)
theorem r_geC (hx : opv l x = some (.int k p)) (hy : opv l y = some (.int k q)) (h : okk ops l g d C.n = true) (c1 : p ≥ q → WX b C Q ops rest ((d, .bool true) :: l) m) (c2 : ¬ p ≥ q → WX b C Q ops rest ((d, .bool false) :: l) m) : WX b C Q ops (⟨some d, .binOp .geq t x y t', ty, pos, af, g⟩ :: rest) l m := by
  by_cases hc : p ≥ q
  · exact r_geT hx hy h hc (c1 hc)
  · exact r_geF hx hy h hc (c2 hc)
theorem r_eqC (hx : opv l x = some (.int k p)) (hy : opv l y = some (.int k q)) (h : okk ops l g d C.n = true) (c1 : p = q → WX b C Q ops rest ((d, .bool true) :: l) m) (c2 : ¬ p = q → WX b C Q ops rest ((d, .bool false) :: l) m) : WX b C Q ops (⟨some d, .binOp .eql t x y t', ty, pos, af, g⟩ :: rest) l m := by
  by_cases hc : p = q
  · exact r_eqT hx hy h hc (c1 hc)
  · exact r_eqF hx hy h hc (c2 hc)
theorem r_neC (hx : opv l x = some (.int k p)) (hy : opv l y = some (.int k q)) (h : okk ops l g d C.n = true) (c1 : ¬ p = q → WX b C Q ops rest ((d, .bool true) :: l) m) (c2 : p = q → WX b C Q ops rest ((d, .bool false) :: l) m) : WX b C Q ops (⟨some d, .binOp .neq t x y t', ty, pos, af, g⟩ :: rest) l m := by
  by_cases hc : p = q
  · exact r_neF hx hy h hc (c2 hc)
  · exact r_neT hx hy h hc (c1 hc)

theorem r_ad (hx : opv l x = some (.int k p)) (hy : opv l y = some (.int k q)) (h : okk ops l g d C.n = true) (hw : k.wrap (p + q) = r) (c : WX b C Q ops rest ((d, .int k r) :: l) m) : WX b C Q ops (⟨some d, .binOp .add t x y t', ty, pos, af, g⟩ :: rest) l m := WX.q (Qv.add hx hy hw) rfl (okk_1 h) (okk_2 h) rfl c
theorem r_su (hx : opv l x = some (.int k p)) (hy : opv l y = some (.int k q)) (h : okk ops l g d C.n = true) (hw : k.wrap (p - q) = r) (c : WX b C Q ops rest ((d, .int k r) :: l) m) : WX b C Q ops (⟨some d, .binOp .sub t x y t', ty, pos, af, g⟩ :: rest) l m := WX.q (Qv.sub hx hy hw) rfl (okk_1 h) (okk_2 h) rfl c
theorem r_mu (hx : opv l x = some (.int k p)) (hy : opv l y = some (.int k q)) (h : okk ops l g d C.n = true) (hw : k.wrap (p * q) = r) (c : WX b C Q ops rest ((d, .int k r) :: l) m) : WX b C Q ops (⟨some d, .binOp .mul t x y t', ty, pos, af, g⟩ :: rest) l m := WX.q (Qv.mul hx hy hw) rfl (okk_1 h) (okk_2 h) rfl c

theorem r_qu (hx : opv l x = some (.int k p)) (hy : opv l y = some (.int k q)) (h : okk ops l g d C.n = true) (hq : q ≠ 0) (hw : k.wrap (p.tdiv q) = r) (c : WX b C Q ops rest ((d, .int k r) :: l) m) : WX b C Q ops (⟨some d, .binOp .quo t x y t', ty, pos, af, g⟩ :: rest) l m :=
  WX.q (Qv.bin hx hy (fun _ _ => eqGuard_at_int ..) (fun w _ => by rw [binOp_quo, ← hw]; simp [Op.intDiv, hq])) rfl (okk_1 h) (okk_2 h) rfl c
theorem r_re (hx : opv l x = some (.int k p)) (hy : opv l y = some (.int k q)) (h : okk ops l g d C.n = true) (hq : q ≠ 0) (hw : p.tmod q = r) (c : WX b C Q ops rest ((d, .int k r) :: l) m) : WX b C Q ops (⟨some d, .binOp .rem t x y t', ty, pos, af, g⟩ :: rest) l m :=
  WX.q (Qv.bin hx hy (fun _ _ => eqGuard_at_int ..) (fun w _ => by rw [binOp_rem, ← hw]; simp [Op.intDiv, hq])) rfl (okk_1 h) (okk_2 h) rfl c
theorem wquo64 {p q : Int} (h : 0 ≤ p ∧ p ≤ 9223372036854775807 ∧ 1 ≤ q) : IntKind.i64.wrap (p.tdiv q) = p / q := IntWalk.i64_quo p q h
theorem wquo32 {p q : Int} (h : 0 ≤ p ∧ p ≤ 2147483647 ∧ 1 ≤ q) : IntKind.i32.wrap (p.tdiv q) = p / q := IntWalk.i32_quo p q h
theorem wrem {p q : Int} (h : 0 ≤ p) : p.tmod q = p % q := IntWalk.rem_in p q h
theorem r_ls {e : TypeId} {A : Option Addr} {n c : Nat} (ht : C.P.underlying t = some (.slice e)) (hx : opv l x = some (.slice A n c)) (h : okk ops l g d C.n = true) (k : WX b C Q ops rest ((d, .int .i64 n) :: l) m) :
    WX b C Q ops (⟨some d, .call { callee := .builtin .len, args := #[x], argTypes := #[t] }, ty, pos, af, g⟩ :: rest) l m := WX.q (Qv.len_slice ht hx) rfl (okk_1 h) (okk_2 h) rfl k
theorem r_lS {s : ByteArray} (ht : C.P.underlying t = some .string) (hx : opv l x = some (.string s)) (h : okk ops l g d C.n = true) (k : WX b C Q ops rest ((d, .int .i64 s.size) :: l) m) :
    WX b C Q ops (⟨some d, .call { callee := .builtin .len, args := #[x], argTypes := #[t] }, ty, pos, af, g⟩ :: rest) l m := WX.q (Qv.len_string ht hx) rfl (okk_1 h) (okk_2 h) rfl k
theorem r_mi (hx : opv l x = some u) (hr : ∀ w, (Instr.makeInterface t u).run C.P w = .ok (.iface t u) w) (h : okk ops l g d C.n = true) (c : WX b C Q ops rest ((d, .iface t u) :: l) m) : WX b C Q ops (⟨some d, .makeInterface t x, ty, pos, af, g⟩ :: rest) l m := WX.q (Qv.makeInterface hx hr) rfl (okk_1 h) (okk_2 h) rfl c
theorem r_fn {f : Fn} {xs : List Operand} {vs : List Value} (hx : opvs l xs = some vs) (h : okk ops l g d C.n = true) (c : WX b C Q ops rest ((d, .func f #[] vs.toArray) :: l) m) : WX b C Q ops (⟨some d, .makeFunc f #[] xs.toArray, ty, pos, af, g⟩ :: rest) l m := WX.q (Qv.makeFunc hx) rfl (okk_1 h) (okk_2 h) rfl c
theorem r_fa (o' : Nat) {i bb o : Nat} (hx : opv l x = some (.pointer (some ⟨bb, o, none⟩))) (hr : ∀ w, (Instr.fieldAt t (.pointer (some ⟨bb, o, none⟩)) i).run C.P w = .ok (.pointer (some ⟨bb, o', none⟩)) w) (h : okk ops l g d C.n = true) (c : WX b C Q ops rest ((d, .pointer (some ⟨bb, o', none⟩)) :: l) m) : WX b C Q ops (⟨some d, .fieldAddr t x i, ty, pos, af, g⟩ :: rest) l m := WX.q (Qv.fieldAddr hx hr) rfl (okk_1 h) (okk_2 h) rfl c
theorem r_fi {i : Nat} (hx : opv l x = some u) (hr : ∀ w, (Instr.field t u i).run C.P w = .ok v w) (h : okk ops l g d C.n = true) (c : WX b C Q ops rest ((d, v) :: l) m) : WX b C Q ops (⟨some d, .field t x i, ty, pos, af, g⟩ :: rest) l m := WX.q (Qv.field hx hr) rfl (okk_1 h) (okk_2 h) rfl c
theorem r_f1 (o : Nat) {i : Nat} {cs : List Value} (hx : opv l x = some (.agg cs.toArray)) (hv : cs[o]? = some v) (hr : ∀ w, (Instr.field t (.agg cs.toArray) i).run C.P w = .ok v w) (h : okk ops l g d C.n = true) (c : WX b C Q ops rest ((d, v) :: l) m) : WX b C Q ops (⟨some d, .field t x i, ty, pos, af, g⟩ :: rest) l m := WX.q (Qv.field hx hr) rfl (okk_1 h) (okk_2 h) rfl c
theorem r_ix {i : Value} (hx : opv l x = some u) (hy : opv l y = some i) (hr : ∀ w, (Instr.index t u i).run C.P w = .ok v w) (h : okk ops l g d C.n = true) (c : WX b C Q ops rest ((d, v) :: l) m) : WX b C Q ops (⟨some d, .index t x y, ty, pos, af, g⟩ :: rest) l m := WX.q (Qv.index hx hy hr) rfl (okk_1 h) (okk_2 h) rfl c
theorem r_ia {e : TypeId} {A : Option Addr} {n c : Nat} {i : Int} (ht : C.P.underlying t = some (.slice e)) (he : (C.P.info? e).map (·.size) = some 1) (hx : opv l x = some (.slice A n c)) (hy : opv l y = some (.int k i)) (h : okk ops l g d C.n = true)
    (hA : 0 < n → A.isSome = true) (h0 : 0 ≤ i) (h1 : i < n) (cc : WX b C Q ops rest ((d, .pointer (A.map (·.add i.toNat))) :: l) m) : WX b C Q ops (⟨some d, .indexAddr t x y, ty, pos, af, g⟩ :: rest) l m := WX.q (Qv.indexAddr ht he hx hy hA h0 h1) rfl (okk_1 h) (okk_2 h) rfl cc
theorem Qv.indexMap {α : Type} {f : α → Value} {xs : List α} {e : TypeId} {A : Option Addr} {n c : Nat} {i : Int} {d : Option Nat} (ht : C.P.underlying t = some (.slice e)) (he : (C.P.info? e).map (·.size) = some 1) (hx : opv l x = some (.slice A n c)) (hy : opv l y = some (.int k i)) (hr : Rd C.w0 (m ++ C.m0) A (xs.map f))
    (hn : xs.length = n) (h0 : 0 ≤ i) (h1 : i < xs.length) : Qv C l m ⟨d, .indexAddr t x y, ty, pos, af, g⟩ (.pointer (A.map (·.add i.toNat))) := fun ev hev w hw => by
  have hlt : i.toNat < (xs.map f).length := by simp; omega
  obtain ⟨a, rfl, _⟩ := hr w hw i.toNat _ (List.getElem?_eq_getElem hlt)
  exact Qv.indexAddr ht he hx hy (fun _ => rfl) h0 (by omega) ev hev w hw
/-- The address of an element of a slice that can be read. -/
theorem r_im {α : Type} {f : α → Value} {xs : List α} {e : TypeId} {A : Option Addr} {n c : Nat} {i : Int} (hr : Rd C.w0 (m ++ C.m0) A (xs.map f)) (ht : C.P.underlying t = some (.slice e)) (he : (C.P.info? e).map (·.size) = some 1) (hx : opv l x = some (.slice A n c)) (hy : opv l y = some (.int k i)) (h : okk ops l g d C.n = true)
    (hn : xs.length = n) (h0 : 0 ≤ i) (h1 : i < xs.length) (cc : WX b C Q ops rest ((d, .pointer (A.map (·.add i.toNat))) :: l) m) : WX b C Q ops (⟨some d, .indexAddr t x y, ty, pos, af, g⟩ :: rest) l m := WX.q (Qv.indexMap ht he hx hy hr hn h0 h1) rfl (okk_1 h) (okk_2 h) rfl cc
/-- .. and what lies there: whole numbers; strings. -/
theorem r_li (j : Nat) {xs : List Int} {kk : IntKind} {dd : TypeDesc} {A : Option Addr} (hr : Rd C.w0 (m ++ C.m0) A (xs.map (.int kk ·))) (ht : C.P.underlying t = some dd) (h1 : oneTy dd = true) (hx : opv l x = some (.pointer (A.map (·.add j)))) (h : okk ops l g d C.n = true) (hj : j < xs.length) (c : WX b C Q ops rest ((d, .int kk (xs.getD j 0)) :: l) m) :
    WX b C Q ops (⟨some d, .load t x, ty, pos, af, g⟩ :: rest) l m := WX.q (Qv.load_rd ht h1 hx hr (by simp [hj])) rfl (okk_1 h) (okk_2 h) rfl c
theorem r_lt (j : Nat) {xs : List ByteArray} {dd : TypeDesc} {A : Option Addr} (hr : Rd C.w0 (m ++ C.m0) A (xs.map (.string ·))) (ht : C.P.underlying t = some dd) (h1 : oneTy dd = true) (hx : opv l x = some (.pointer (A.map (·.add j)))) (h : okk ops l g d C.n = true) (hj : j < xs.length) (c : WX b C Q ops rest ((d, .string (xs.getD j ⟨#[]⟩)) :: l) m) :
    WX b C Q ops (⟨some d, .load t x, ty, pos, af, g⟩ :: rest) l m := WX.q (Qv.load_rd ht h1 hx hr (by simp [hj])) rfl (okk_1 h) (okk_2 h) rfl c
theorem r_cv {t u : TypeId} {v r : Value} (hx : opv l x = some v) (hr : ∀ w, (convert t u v).run C.P w = .ok r w) (h : okk ops l g d C.n = true) (c : WX b C Q ops rest ((d, r) :: l) m) : WX b C Q ops (⟨some d, .convert t u x, ty, pos, af, g⟩ :: rest) l m := WX.q (Qv.convert hx hr) rfl (okk_1 h) (okk_2 h) rfl c
theorem r_bu {ps : List (Nat × Operand)} {vs : List (Nat × Value)} (hps : opps l ps = some vs) (hr : ∀ w, (Instr.build t vs.toArray).run C.P w = .ok v w) (h : okk ops l g d C.n = true) (c : WX b C Q ops rest ((d, v) :: l) m) : WX b C Q ops (⟨some d, .build t ps.toArray, ty, pos, af, g⟩ :: rest) l m := WX.q (Qv.build hps hr) rfl (okk_1 h) (okk_2 h) rfl c
theorem r_lr {dd : TypeDesc} {A : Option Addr} {i : Nat} {xs : List Value} (ht : C.P.underlying t = some dd) (h1 : oneTy dd = true) (hx : opv l x = some (.pointer (A.map (·.add i)))) (h : okk ops l g d C.n = true) (hr : Rd C.w0 (m ++ C.m0) A xs) (hv : xs[i]? = some v) (c : WX b C Q ops rest ((d, v) :: l) m) :
    WX b C Q ops (⟨some d, .load t x, ty, pos, af, g⟩ :: rest) l m := WX.q (Qv.load_rd ht h1 hx hr hv) rfl (okk_1 h) (okk_2 h) rfl c
theorem r_lb {dd : TypeDesc} {bb o : Nat} (i : Nat) {cs : List Value} {e : TypeId} (ht : C.P.underlying t = some dd) (h1 : oneTy dd = true) (hx : opv l x = some (.pointer (some ⟨bb, o, none⟩))) (h : okk ops l g d C.n = true) (hi : m[i]? = some (.blk bb cs e)) (hv : cs[o]? = some v) (c : WX b C Q ops rest ((d, v) :: l) m) :
    WX b C Q ops (⟨some d, .load t x, ty, pos, af, g⟩ :: rest) l m := WX.q (Qv.load_blk ht h1 hx hi hv) rfl (okk_1 h) (okk_2 h) rfl c
theorem r_la {dd : TypeDesc} {bb : Nat} (i : Nat) {cs : List Value} {e : TypeId} (ht : C.P.underlying t = some dd) (h1 : oneTy dd = false) (hz : (C.P.info? t).map (·.size) = some cs.length) (hx : opv l x = some (.pointer (some ⟨bb, 0, none⟩))) (h : okk ops l g d C.n = true) (hi : m[i]? = some (.blk bb cs e)) (c : WX b C Q ops rest ((d, .agg cs.toArray) :: l) m) :
    WX b C Q ops (⟨some d, .load t x, ty, pos, af, g⟩ :: rest) l m := WX.q (Qv.load_all ht h1 hz hx hi) rfl (okk_1 h) (okk_2 h) rfl c
theorem r_ta {t u : TypeId} {e : Bool} {v r : Value} (hx : opv l x = some v) (hr : ∀ w, (Instr.typeAssert v t u e).run C.P w = .ok r w) (h : okk ops l g d C.n = true) (c : WX b C Q ops rest ((d, r) :: l) m) : WX b C Q ops (⟨some d, .typeAssert x t u e, ty, pos, af, g⟩ :: rest) l m := WX.q (Qv.typeAssert hx hr) rfl (okk_1 h) (okk_2 h) rfl c
theorem r_bi {op : BinOp} (hx : opv l x = some u) (hy : opv l y = some v) (hgd : ∀ x y, eqGuard op t x y u v = pure ()) {s : Value} (hr : ∀ w, Mem C.w0 (m ++ C.m0) w → (binOp op t u v).run C.P w = .ok s w) (h : okk ops l g d C.n = true) (c : WX b C Q ops rest ((d, s) :: l) m) : WX b C Q ops (⟨some d, .binOp op t x y t', ty, pos, af, g⟩ :: rest) l m := WX.q (Qv.bin hx hy hgd hr) rfl (okk_1 h) (okk_2 h) rfl c
theorem r_iS {s : ByteArray} {i : Int} {v : UInt8} (ht : C.P.underlying t = some .string) (hx : opv l x = some (.string s)) (hy : opv l y = some (.int k i)) (h : okk ops l g d C.n = true) (h0 : 0 ≤ i) (hv : s.data[i.toNat]? = some v) (c : WX b C Q ops rest ((d, .int .u8 v.toNat) :: l) m) : WX b C Q ops (⟨some d, .index t x y, ty, pos, af, g⟩ :: rest) l m := WX.q (Qv.index_str ht hx hy h0 hv) rfl (okk_1 h) (okk_2 h) rfl c

def opds (l : List (Nat × Value)) : Nat → List (Nat × Operand) → Option (List Value)
  | _, [] => some []
  | j, (i, x) :: r => match Nat.beq i j, opv l x, opds l (j + 1) r with
    | true, some v, some vs => some (v :: vs)
    | _, _, _ => none
def numbered : Nat → List Value → List (Nat × Value)
  | _, [] => []
  | j, v :: r => (j, v) :: numbered (j + 1) r
theorem opps_of : ∀ (ps : List (Nat × Operand)) (j : Nat) (vs : List Value), opds l j ps = some vs → opps l ps = some (numbered j vs)
  | [], j, vs, h => by simp [opds] at h; subst h; rfl
  | (i, x) :: r, j, vs, h => by
    simp only [opds] at h
    split at h
    · rename_i h0 h1 h2
      have e := Nat.eq_of_beq_eq_true h0
      subst e
      have ih := opps_of r (i + 1) _ h2
      simp at h
      subst h
      simp [opps, h1, ih, numbered]
    · cases h
theorem r_bd {ps : List (Nat × Operand)} {vs : List Value} (hps : opds l 0 ps = some vs) (hr : ∀ w, (Instr.build t (numbered 0 vs).toArray).run C.P w = .ok (.agg vs.toArray) w) (h : okk ops l g d C.n = true) (c : WX b C Q ops rest ((d, .agg vs.toArray) :: l) m) : WX b C Q ops (⟨some d, .build t ps.toArray, ty, pos, af, g⟩ :: rest) l m := WX.q (Qv.build (opps_of ps 0 vs hps) hr) rfl (okk_1 h) (okk_2 h) rfl c


/-! ### Calls of functions without a text, and by a method's name -/
theorem r_xv {f : FuncId} {fo : Operand} {xs : List Operand} {vs : List Value} {ts : Array TypeId} (hfo : opv l fo = some (.func (.func f) #[] #[])) (hxs : opvs l xs = some vs) (hr : ∀ w, (callFunc f vs.toArray).run C.P w = .ok (.value v) w) (h : okk ops l g d C.n = true) (c : WX b C Q ops rest ((d, v) :: l) m) :
    WX b C Q ops (⟨some d, .call { callee := .value fo, args := xs.toArray, argTypes := ts }, ty, pos, af, g⟩ :: rest) l m :=
  WX.q (fun ev hev w _ => by
    have h1 := opvs_map hev xs vs hxs
    simp [execOp, resolve, hev fo _ hfo, Deferred.ofValue, invoke, h1, hr w]) rfl (okk_1 h) (okk_2 h) rfl c
theorem r_iv {name : String} {xs : List Operand} {vs : List Value} {ts : Array TypeId} (hx : opv l x = some u) (hxs : opvs l xs = some vs) (hr : ∀ w, (callMethod u name vs.toArray).run C.P w = .ok (.value v) w) (h : okk ops l g d C.n = true) (c : WX b C Q ops rest ((d, v) :: l) m) :
    WX b C Q ops (⟨some d, .call { callee := .invoke x name, args := xs.toArray, argTypes := ts }, ty, pos, af, g⟩ :: rest) l m :=
  WX.q (fun ev hev w _ => by
    have h1 := opvs_map hev xs vs hxs
    have h2 : Array.extract (#[u] ++ vs.toArray) 1 (#[u] ++ vs.toArray).size = vs.toArray := by simp
    simp only [execOp, resolve, hev x _ hx, List.map_toArray, h1, Sem.run_bind, Sem.run_pure, Result.andThen_ok, invoke]
    simp [hr w]) rfl (okk_1 h) (okk_2 h) rfl c
theorem WX.invoke {α : Type} {φ : α → Prop} {val : α → Value} {M : α → List Res} {name : String} {xs : List Operand} {vs args : List Value} {ts : Array TypeId} {f : FuncId} {m1 m2 : List Res} (hx : opv l x = some u) (hxs : opvs l xs = some vs) (hr : ∀ w, (callMethod u name vs.toArray).run C.P w = .ok (.enter f args.toArray) w)
    (hm : m = m1 ++ m2) (hsp : Ct C.P f args C.w0 m1 (m2 ++ C.m0) φ val M) (hdn : Nat.blt d C.n = true) (hg : wants ops l g = some true)
    (k : ∀ x, φ x → WX false C Q ops rest ((d, val x) :: l) (M x ++ m2)) : WX false C Q ops (⟨some d, .call { callee := .invoke x name, args := xs.toArray, argTypes := ts }, ty, pos, af, g⟩ :: rest) l m := by
  intro a w hs
  refine wpListIn_wanted (wanted_of hs.1 hg) rfl ?_
  have hrun : (execOp a.eval ⟨some d, .call { callee := .invoke x name, args := xs.toArray, argTypes := ts }, ty, pos, af, g⟩).run C.P w = .ok (.enter f args.toArray) w := by
    have h1 := opvs_map (ev_of hs.1) xs vs hxs
    simp only [execOp, resolve, hs.1.eval hx, List.map_toArray, h1, Sem.run_bind, Sem.run_pure, Result.andThen_ok, Go.invoke]
    simp [hr w]
  rw [hrun, Oper.uponIn_enter]
  refine ⟨fun h => by simp [FW] at h, ?_⟩
  have hc : CallsIn Fence.wide (0 - 1) C.P f args.toArray w (sp C.w0 (m2 ++ C.m0) φ val M) := callsIn_wide.2 (hsp.2 w (by rw [← List.append_assoc, ← hm]; exact hs.2))
  refine ⟨trivial, fun css hroom => ?_⟩
  obtain ⟨e, w', fr, hR, hcome, hfn, hleave⟩ := hc.2 css (room_wide _)
  refine ⟨e, w', fr, ?_, hcome, hfn, hleave⟩
  obtain ⟨x, hx, rfl, hmem⟩ := hR
  refine k x hx _ _ ⟨hs.1.put d _ hdn, ?_⟩
  rw [List.append_assoc]
  exact hmem
/-- A comparison that the kernel reckons. -/
theorem r_bk (s : Value) {op : BinOp} (hx : opv l x = some u) (hy : opv l y = some v) (hr : ∀ w, ((do eqGuard op t x y u v; binOp op t u v : Sem Value)).run C.P w = .ok s w) (h : okk ops l g d C.n = true) (c : WX b C Q ops rest ((d, s) :: l) m) : WX b C Q ops (⟨some d, .binOp op t x y t', ty, pos, af, g⟩ :: rest) l m :=
  WX.q (fun ev hev w _ => by
    have := hr w
    simp only [execOp, hev x _ hx, hev y _ hy]
    simp only [Sem.run_bind] at this ⊢
    rw [this]; rfl) rfl (okk_1 h) (okk_2 h) rfl c
theorem r_bq {e e' : Bool} (ht : C.P.underlying t = some .bool) (hx : opv l x = some (.bool e)) (hy : opv l y = some (.bool e')) (h : okk ops l g d C.n = true) (c : WX b C Q ops rest ((d, .bool (e == e')) :: l) m) : WX b C Q ops (⟨some d, .binOp .eql t x y t', ty, pos, af, g⟩ :: rest) l m :=
  WX.q (Qv.bin hx hy (fun _ _ => eqGuard_at_bool ..) (fun w _ => run_eql_bool w t e e' ht)) rfl (okk_1 h) (okk_2 h) rfl c

/-! ### Ranging over a string -/
theorem Mem.objRun {w0 w : World} {m m0 : List Res} {i b : Nat} {o : Obj} (hw : Mem w0 (m ++ m0) w) (hi : m[i]? = some (.obj b o)) : w.heap[b]? = some o := ((Mem.appL hw).all i _ hi).2
theorem Ev.range {s : ByteArray} {d : Option Nat} (ht : C.P.underlying t = some .string) (hx : opv l x = some (.string s)) : Ev (α := Nat) C l m ⟨d, .range t x, ty, pos, af, g⟩ (fun _ => True) (fun b => .pointer (some ⟨b, 0, none⟩)) (fun b => .obj b (.stringIter s 0) :: m) := fun ev hev w hw => by
  refine ⟨w.heap.size, w.alloc (.stringIter s 0), trivial, ?_, hw.add (World.grownBy_alloc w _ none) ⟨hw.bnd, heap_alloc_new w _⟩ (fun k hk => by simp [Res.block] at hk; omega)⟩
  simp [execOp, hev x _ hx, Instr.range, run_underlying ht]
theorem Ev.next {s : ByteArray} {d : Option Nat} {p i bb c wd : Nat} {m' : List Res} (hx : opv l x = some (.pointer (some ⟨bb, 0, none⟩))) (hi : m[i]? = some (.obj bb (.stringIter s p))) (hp : p < s.size) (hd : Utf8.decode s p = (c, wd)) (hm : m.set i (.obj bb (.stringIter s (p + wd))) = m') :
    Ev (α := Unit) C l m ⟨d, .next x true, ty, pos, af, g⟩ (fun _ => True) (fun _ => .tuple #[.bool true, .int .i64 p, .int .i32 c]) (fun _ => m') := fun ev hev w hw => by
  have ho := Mem.objRun hw hi
  have hlt : i < m.length := (List.getElem?_eq_some_iff.1 hi).1
  have hi' : (m ++ C.m0)[i]? = some (.obj bb (.stringIter s p)) := by rw [List.getElem?_append_left hlt]; exact hi
  have hb := (at_lt (hw.all i _ hi') bb rfl).2
  refine ⟨(), { w with heap := w.heap.setIfInBounds bb (.stringIter s (p + wd)) }, trivial, ?_, ?_⟩
  · simp [execOp, hev x _ hx, Instr.next, getObj, setObj, Sem.run, ho, hp, hd, goInt, Result.andThen]
  · rw [← hm, ← List.set_append_left _ _ hlt]
    refine hw.upd hi' ⟨rfl, rfl, rfl, by simp, fun k hk hne => ?_⟩ ⟨(at_lt (hw.all i _ hi') bb rfl).1, ?_⟩ (fun k hk => .inl hk)
    · simp only [Array.getElem?_setIfInBounds]
      rw [if_neg (fun e => hne (by rw [← e]; rfl))]
    · simp [hb]
theorem r_rg {s : ByteArray} (ht : C.P.underlying t = some .string) (hx : opv l x = some (.string s)) (h : okk ops l g d C.n = true) (c : ∀ n : Nat, WX false C Q ops rest ((d, .pointer (some ⟨n, 0, none⟩)) :: l) (.obj n (.stringIter s 0) :: m)) : WX false C Q ops (⟨some d, .range t x, ty, pos, af, g⟩ :: rest) l m := WX.ev (Ev.range ht hx) rfl (okk_1 h) (okk_2 h) rfl (fun n _ => c n)
theorem r_nT (i : Nat) {s : ByteArray} {p bb c wd : Nat} {m' : List Res} (hp : p < s.size) (hd : Utf8.decode s p = (c, wd)) (hx : opv l x = some (.pointer (some ⟨bb, 0, none⟩))) (hi : m[i]? = some (.obj bb (.stringIter s p))) (hm : m.set i (.obj bb (.stringIter s (p + wd))) = m') (h : okk ops l g d C.n = true) (k : WX false C Q ops rest ((d, .tuple #[.bool true, .int .i64 p, .int .i32 c]) :: l) m') : WX false C Q ops (⟨some d, .next x true, ty, pos, af, g⟩ :: rest) l m := WX.ev (Ev.next hx hi hp hd hm) rfl (okk_1 h) (okk_2 h) rfl (fun _ _ => k)
theorem r_nF (i : Nat) {s : ByteArray} {p bb : Nat} (hp : ¬ p < s.size) (hx : opv l x = some (.pointer (some ⟨bb, 0, none⟩))) (hi : m[i]? = some (.obj bb (.stringIter s p))) (h : okk ops l g d C.n = true) (k : WX false C Q ops rest ((d, .tuple #[.bool false]) :: l) m) : WX false C Q ops (⟨some d, .next x true, ty, pos, af, g⟩ :: rest) l m :=
  WX.q (fun ev hev w hw => by
    have ho := Mem.objRun hw hi
    simp [execOp, hev x _ hx, Instr.next, getObj, Sem.run, ho, hp, Result.andThen]) rfl (okk_1 h) (okk_2 h) rfl k

theorem r_al {e : TypeId} {cs : List Value} {z : Value} (hz : ∀ w, (zeroValue e).run C.P w = .ok z w) (hc : z.cells.toList = cs) (h : okk ops l g d C.n = true) (c : ∀ n : Nat, WX false C Q ops rest ((d, .pointer (some ⟨n, 0, none⟩)) :: l) (.blk n cs e :: m)) : WX false C Q ops (⟨some d, .alloc e, ty, pos, af, g⟩ :: rest) l m := WX.ev (Ev.alloc hz hc) rfl (okk_1 h) (okk_2 h) rfl (fun n _ => c n)
theorem r_bx {e : TypeId} {cs : List Value} (hx : opv l x = some v) (hc : v.cells.toList = cs) (h : okk ops l g d C.n = true) (c : ∀ n : Nat, WX false C Q ops rest ((d, .pointer (some ⟨n, 0, none⟩)) :: l) (.blk n cs e :: m)) : WX false C Q ops (⟨some d, .box e x, ty, pos, af, g⟩ :: rest) l m := WX.ev (Ev.box hx hc) rfl (okk_1 h) (okk_2 h) rfl (fun n _ => c n)
theorem r_bs {e : TypeId} {n : Nat} {ps : List (Nat × Operand)} {cs : List Value} (ht : C.P.underlying t = some (.slice e)) (hps : opds l 0 ps = some cs) (hr : ∀ w, (Instr.buildSlice t n (numbered 0 cs).toArray).run C.P w = .ok (.slice (some ⟨w.heap.size, 0, none⟩) n n) (w.alloc (.cells cs.toArray e))) (h : okk ops l g d C.n = true) (c : ∀ a : Nat, WX false C Q ops rest ((d, .slice (some ⟨a, 0, none⟩) n n) :: l) (.blk a cs e :: m)) : WX false C Q ops (⟨some d, .buildSlice t n ps.toArray, ty, pos, af, g⟩ :: rest) l m := WX.ev (Ev.buildSlice (opps_of ps 0 cs hps) hr) rfl (okk_1 h) (okk_2 h) rfl (fun n _ => c n)
theorem small_max {n : Nat} (hn : Nat.ble n 1000000 = true) : n ≤ maxLen := by
  have : n ≤ 1000000 := by simpa using hn
  unfold maxLen
  omega
theorem r_bo {e : TypeId} {n : Nat} {ps : List (Nat × Operand)} {cs : List Value} (ht : C.P.underlying t = some (.slice e)) (hps : opds l 0 ps = some cs) (hr : ∀ w, (Instr.buildSlice t n (numbered 0 cs).toArray).run C.P w = .ok (.slice (some ⟨w.heap.size, 0, none⟩) n n) (w.alloc (.cells cs.toArray e))) (hl : Nat.beq cs.length n = true) (hn : Nat.ble n 1000000 = true) (h : okk ops l g d C.n = true) (c : ∀ a : Nat, WX false C Q ops rest ((d, .slice (some ⟨a, 0, none⟩) n n) :: l) (.own (some ⟨a, 0, none⟩) n n cs e 1 :: m)) : WX false C Q ops (⟨some d, .buildSlice t n ps.toArray, ty, pos, af, g⟩ :: rest) l m :=
  WX.ev (Ev.buildOwn (opps_of ps 0 cs hps) hr (by have := Nat.eq_of_beq_eq_true hl; omega) (small_max hn)) rfl (okk_1 h) (okk_2 h) rfl (fun n _ => c n)
theorem r_st {bb o : Nat} (i : Nat) {cs : List Value} {e : TypeId} {m' : List Res} (hz : (C.P.info? t).map (·.size) = some 1) (hx : opv l x = some (.pointer (some ⟨bb, o, none⟩))) (hy : opv l y = some v) (h1 : v.oneCell' = true)
    (hi : m[i]? = some (.blk bb cs e)) (ho : Nat.blt o cs.length = true) (hm : m.set i (.blk bb (cs.set o v) e) = m') (hg : wants ops l g = some true) (c : WX false C Q ops rest l m') : WX false C Q ops (⟨none, .store t x y, ty, pos, af, g⟩ :: rest) l m := WX.st (Sv.store_blk hz hx hy h1 hi (by simpa using ho) hm) rfl hg rfl c
theorem r_sa {bb : Nat} (i : Nat) {cs us : List Value} {e : TypeId} {m' : List Res} (hz : (C.P.info? t).map (·.size) = some us.length) (hx : opv l x = some (.pointer (some ⟨bb, 0, none⟩))) (hy : opv l y = some (.agg us.toArray)) (h1 : us.all (·.oneCell') = true)
    (hi : m[i]? = some (.blk bb cs e)) (hl : cs.length = us.length) (hm : m.set i (.blk bb us e) = m') (hg : wants ops l g = some true) (c : WX false C Q ops rest l m') : WX false C Q ops (⟨none, .store t x y, ty, pos, af, g⟩ :: rest) l m := WX.st (Sv.store_all hz hx hy h1 hi hl hm) rfl hg rfl c

/-! ### Slices of the call's own: a store, an append -/
theorem Sv.store_own {d : Option Nat} {A : Option Addr} {n c j i : Nat} {xs : List Value} {e : TypeId} {m' : List Res} (hz : (C.P.info? t).map (·.size) = some 1) (hx : opv l x = some (.pointer (A.map (·.add j)))) (hy : opv l y = some v) (h1 : v.oneCell' = true)
    (hi : m[i]? = some (.own A c n xs e 1)) (hj : j < n) (hm : m.set i (.own A c n (xs.set j v) e 1) = m') : Sv C l m ⟨d, .store t x y, ty, pos, af, g⟩ m' := fun ev hev w hw => by
  have hlt : i < m.length := (List.getElem?_eq_some_iff.1 hi).1
  have hi' : (m ++ C.m0)[i]? = some (.own A c n xs e 1) := by rw [List.getElem?_append_left hlt]; exact hi
  have h : w.ownsRow C.w0.heap.size e 1 (.slice A n c) n xs := hw.all i _ hi'
  have hcells : v.cells = #[v] := by cases v <;> simp_all [Value.cells, Value.oneCell']
  rcases h.2 with ⟨_, h2⟩ | ⟨b, cap, cur, hv, hb, hg, hnc, hcm, hcs, htake⟩
  · omega
  · injection hv with e1 e2 e3
    subst e1 e3
    have hadd : (⟨b, 0, none⟩ : Addr).add j = ⟨b, j, none⟩ := by unfold Addr.add; split <;> simp_all
    have hjc : j < cur.size := by omega
    have hcell : w.cell? ⟨b, j, none⟩ = some cur[j] := by rw [cell_of_row w b j cur e (0, 0) hg]; simp [hjc]
    have hfro := frozen_of_row w b j cur e hg
    obtain ⟨s1, s2⟩ := h.stored j v
    have hx' : ev x = .pointer (some ⟨b, j, none⟩) := by rw [hev x _ hx]; simp [hadd]
    cases hq : C.P.info? t with
    | none => simp [hq] at hz
    | some inf =>
      have hs : inf.size = 1 := by simpa [hq] using hz
      refine ⟨w.setCell ⟨b, j, none⟩ v, ?_, ?_⟩
      · have hst : (store ⟨b, j, none⟩ v).run C.P w = .ok () (w.setCell ⟨b, j, none⟩ v) := by
          rw [run_store C.P w ⟨b, j, none⟩ v _ h1]
          simp [stored, hcell, hfro]
        simp [execOp, hx', hev y _ hy, Instr.storeAt, Instr.sureAddr, storeVar, sizeOf, typeInfo, hq, hs, hcells, storeCells, Addr.add_zero', hst]
      · rw [← hm, ← List.set_append_left _ _ hlt]
        exact hw.upd hi' s2 s1 (fun k hk => .inl hk)
theorem r_so (i j : Nat) {A : Option Addr} {n c : Nat} {xs : List Value} {e : TypeId} {m' : List Res} (hz : (C.P.info? t).map (·.size) = some 1) (hx : opv l x = some (.pointer (A.map (·.add j)))) (hy : opv l y = some v) (h1 : v.oneCell' = true)
    (hi : m[i]? = some (.own A c n xs e 1)) (hj : j < n) (hm : m.set i (.own A c n (xs.set j v) e 1) = m') (hg : wants ops l g = some true) (k : WX false C Q ops rest l m') : WX false C Q ops (⟨none, .store t x y, ty, pos, af, g⟩ :: rest) l m := WX.st (Sv.store_own hz hx hy h1 hi hj hm) rfl hg rfl k
theorem r_am (i : Nat) {α : Type} {f : α → Value} {xs ys : List α} {z : Value} {by_ : Nat} {s' : Operand} {e : TypeId} {A B : Option Addr} {c c' k : Nat} (ht : C.P.underlying t = some (.slice e)) (hinf : (C.P.info? e).map (fun i => (i.zero, i.size, i.bytes)) = some (some z, 1, by_)) (hzc : z.cells.size = 1)
    (hs : opv l s' = some (.slice A xs.length c)) (hx : opv l x = some (.slice B k c')) (hm : m[i]? = some (.own A c xs.length (xs.map f) e 1)) (hr : Rd C.w0 (m ++ C.m0) B (ys.map f)) (hk : ys.length = k) (h1 : ∀ a, (f a).oneCell' = true) (hlen : (xs.length + k) * (by_ + 1) ≤ 140737488355328) (h : okk ops l g d C.n = true)
    (cc : ∀ p : Option Addr × Nat, (p = (none, 0) ↔ (xs.length = 0 ∧ k = 0 ∧ A = none)) → WX false C Q ops rest ((d, .slice p.1 (xs ++ ys).length p.2) :: l) (m.set i (.own p.1 p.2 (xs ++ ys).length ((xs ++ ys).map f) e 1))) :
    WX false C Q ops (⟨some d, .call { callee := .builtin .append, args := #[s', x], argTypes := #[t, t] }, ty, pos, af, g⟩ :: rest) l m := by
  cases hq : C.P.info? e with
  | none => simp [hq] at hinf
  | some inf =>
    have h3 : inf.zero = some z ∧ inf.size = 1 ∧ inf.bytes = by_ := by simpa [hq] using hinf
    have hb1 : (xs.length + k) * by_ ≤ (xs.length + k) * (by_ + 1) := Nat.mul_le_mul_left _ (by omega)
    have hb2 : (xs.length + k) * 1 ≤ (xs.length + k) * (by_ + 1) := Nat.mul_le_mul_left _ (by omega)
    refine WX.ev (Ev.append (ys := ys.map f) ht hq h3.1 h3.2.1 h3.2.2 hzc hs hx hm hr (by simpa using hk) (by simpa using fun a _ => h1 a) (by unfold maxLen; omega) (by omega)) rfl (okk_1 h) (okk_2 h) rfl (fun p hp => ?_)
    have := cc p hp
    rw [List.length_append, List.map_append, hk] at this
    exact this

theorem r_nx {c : Code} {K : Act → World → Prop} (hK : ∀ l m, WC C Q c l m → CK C K l m) (h : WC C Q c l m) : WX b C (Exit.then K Q) ops [] l m := WX.nil (WE.then_n hK h)
theorem r_nl (h : WE C Q .normal l m) : WX b C Q ops [] l m := WX.nil h
theorem c_sq {x y : Code} (h : ∀ K : Act → World → Prop, (∀ l m, WC C Q y l m → CK C K l m) → WC C (Exit.then K Q) x l m) : WC C Q (.seq x y) l m := WC.seq h
theorem c_rg {i : Nat} {ops : List Oper} (h : WX false C Q ops.toArray ops l m) : WC C Q (.region i ops.toArray false) l m := WC.region_ h
theorem c_dr {i : Nat} {ops : List Oper} (hr : C.r = none) (hm : C.P.follows .mixedOrders = true) (hB : Region.lexB .any ops.toArray = true) (h : WX true C Q ops.toArray ops l m) : WC C Q (.region i ops.toArray true) l m := WC.draws_ hr hm hB h
theorem c_bl {i : Nat} {c : Code} (h : WC C (Exit.inBlock i Q) c l m) : WC C Q (.block i c) l m := WC.block h
theorem c_cT {x : Operand} {c c' : Code} (hc : opv l x = some (.bool true)) (h : WC C Q c l m) : WC C Q (.cond x c c') l m := WC.cond_t hc h
theorem c_cF {x : Operand} {c c' : Code} (hc : opv l x = some (.bool false)) (h : WC C Q c' l m) : WC C Q (.cond x c c') l m := WC.cond_f hc h
theorem c_sk (h : WE C Q .normal l m) : WC C Q .skip l m := WC.skip h
theorem c_lb {i : Nat} (h : WE C Q .normal l m) : WC C Q (.label i) l m := WC.label h
theorem c_ex {i : Nat} (h : WE C Q (.exit i) l m) : WC C Q (.exit i) l m := WC.exit h
theorem c_rt (h : WE C Q .ret l m) : WC C Q .ret l m := WC.ret h
theorem c_sc {c : Code} (hr : C.r = none) (h : WC C (Exit.noGoto Q) c l m) : WC C Q (.scope c) l m := WC.scope hr h
end

attribute [irreducible] WC WE WX WL WQ CK back met Ct Rd
end Go.Gp
