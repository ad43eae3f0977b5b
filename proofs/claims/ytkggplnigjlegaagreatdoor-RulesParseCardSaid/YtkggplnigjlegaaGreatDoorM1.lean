/- Contracts and laws, part 1 of 5: what each function of the program computes. -/
import Derived.WalkKit
import Derived.WalkSpells
import Derived.WalkLawsBesides
import Derived.RangeFuncIn
import Derived.TacticsIn
import Derived.Sort.QuietThIn
import Derived.Sort.LoopGhostIn
import Derived.Scope
import Derived.KernelRfl
import Derived.Deep.AppendLies
import Derived.Laws.OwnMore
import Derived.Lib.MinMax
import Derived.OrdersHeld
import Derived.StillTail
import Derived.Lib.AppendStr
import Derived.Test.YtkggplnigjlegaaGreatDoorRows
import Derived.Lib.Builder
import Derived.Lib.UnsafeStr
import Derived.Lib.MakeNoZero
import Derived.Lib.Bytealg
import Derived.RangeFuncLeaves
import Derived.RangeFuncSeq
namespace Go.Gp
open Go.RowKit

section
variable {P : Program}

theorem run_storeVar_row (w : World) (g : Nat) (ty t : TypeId) (old cs : Array Value) (hg : w.heap[g]? = some (.cells old t (0, 0))) (hl : old.size = cs.size)
    (hi : (P.info? ty).map (·.size) = some cs.size) (h1 : ∀ v ∈ cs.toList, v.oneCell' = true) :
    (storeVar ty ⟨g, 0, none⟩ (.agg cs)).run P w = .ok () (w.setRow g cs) := by
  cases hq : P.info? ty with
  | none => simp [hq] at hi
  | some i =>
    have hs : i.size = cs.size := by simpa [hq] using hi
    have hst := run_storeCells_from (P := P) g t cs.toList 0 old w hg (by simp [hl]) h1
    simp only [List.take_zero, List.nil_append, Array.toArray_toList] at hst
    simp [storeVar, Value.cells, sizeOf, typeInfo, hq, hs, Sem.run_bind, hst]

theorem setRow_alloc (w : World) (old cs : Array Value) (t : TypeId) : (w.alloc (.cells old t)).setRow w.heap.size cs = w.alloc (.cells cs t) := by
  unfold World.setRow World.alloc
  congr 1
  apply Array.ext
  · simp
  · intro i h1 h2
    simp only [Array.getElem_modify, Array.getElem_push]
    have h3 : i < w.heap.size + 1 := by simpa using h2
    by_cases hi : i = w.heap.size
    · subst hi; simp
    · rw [if_neg (by omega)]
      have h4 : i < w.heap.size := by omega
      simp [h4]

theorem wp_store_new {o : Oper} {a : Act} {w : World} {K : Act → World → Prop} {Q : Exit → Act → World → Prop} (ty : TypeId) (x y : Operand) (ho : o.op = .store ty x y)
    (hx : a.eval x = .pointer (some ⟨w.heap.size, 0, none⟩)) (t : TypeId) (old cs : Array Value) (hy : a.eval y = .agg cs) (hl : old.size = cs.size)
    (hi : (P.info? ty).map (·.size) = some cs.size) (h1 : ∀ v ∈ cs.toList, v.oneCell' = true)
    (h : K (a.put o.dst undef) (w.alloc (.cells cs t))) : o.wp P a (w.alloc (.cells old t)) K Q := by
  unfold Oper.wp execOp
  have hr := run_storeVar_row (P := P) (w.alloc (.cells old t)) w.heap.size ty t old cs (heap_alloc_new w _) hl hi h1
  rw [setRow_alloc] at hr
  simp only [ho, hx, hy, Instr.storeAt, Instr.sureAddr, Sem.run_bind, Sem.run_pure, Result.andThen_ok, hr]
  exact h

theorem wpList_store_new {ops : Array Oper} {rest : List Oper} {o : Oper} {a : Act} {w : World} {Q : Exit → Act → World → Prop} (hgd : o.guard = none) (ty : TypeId) (x y : Operand) (ho : o.op = .store ty x y)
    (hx : a.eval x = .pointer (some ⟨w.heap.size, 0, none⟩)) (t : TypeId) (old cs : Array Value) (hy : a.eval y = .agg cs) (hl : old.size = cs.size)
    (hi : (P.info? ty).map (·.size) = some cs.size) (h1 : ∀ v ∈ cs.toList, v.oneCell' = true)
    (h : wpList P ops Q rest (a.put o.dst undef) (w.alloc (.cells cs t))) : wpList P ops Q (o :: rest) a (w.alloc (.cells old t)) :=
  wpList_plain hgd fun _ hK => wp_store_new ty x y ho hx t old cs hy hl hi h1 (hK _ _ h)
end
end Go.Gp

/- A small logic for the walks of this seat: what the slots hold (Sl), which blocks of memory are known (Mem), one rule for each kind of step, contracts of functions (Ct). -/
set_option linter.unusedSimpArgs false
set_option linter.unusedVariables false
namespace Go.Gp
open Go.RowKit

/-! ### 1. Slots -/

def lk : Nat → List (Nat × Value) → Option Value
  | _, [] => none
  | t, (s, v) :: r => bif Nat.beq t s then some v else lk t r

structure Sl (n : Nat) (D : List Deferred) (l : List (Nat × Value)) (a : Act) : Prop where
  d : a.defers = D
  size : a.tmps.size = n
  at_ : ∀ s v, lk s l = some v → a.tmps.getD s undef = v

theorem Sl.put {n : Nat} {D : List Deferred} {l : List (Nat × Value)} {a : Act} (h : Sl n D l a) (d : Nat) (v : Value) (hd : Nat.blt d n = true) : Sl n D ((d, v) :: l) (a.put (some d) v) := by
  have hd' : d < n := by simpa [Nat.blt_eq] using hd
  refine ⟨h.d, by simp [Act.put, h.size], ?_⟩
  intro s u hu
  simp only [lk] at hu
  by_cases e : s = d
  · subst e
    simp only [Nat.beq_refl, cond_true, Option.some.injEq] at hu
    subst hu
    have : s < a.tmps.size := by rw [h.size]; exact hd'
    simp [Act.put, Array.getD_eq_getD_getElem?, Array.getElem?_setIfInBounds, this]
  · have : Nat.beq s d = false := by
      cases hb : Nat.beq s d with
      | false => rfl
      | true => exact absurd (Nat.eq_of_beq_eq_true hb) e
    rw [this] at hu
    have h1 := h.at_ s u hu
    have e' : ¬ d = s := fun x => e x.symm
    simpa [Act.put, Array.getD_eq_getD_getElem?, Array.getElem?_setIfInBounds, e'] using h1

theorem Sl.none_ {n : Nat} {D : List Deferred} {l : List (Nat × Value)} {a : Act} (h : Sl n D l a) (v : Value) : Sl n D l (a.put none v) := h

def subS : List (Nat × Value) → List (Nat × Value) → Prop
  | [], _ => True
  | (s, v) :: r, l => lk s l = some v ∧ subS r l

theorem subS.at_ {L l : List (Nat × Value)} (h : subS L l) : ∀ s v, lk s L = some v → lk s l = some v := by
  induction L with
  | nil => intro s v hv; simp [lk] at hv
  | cons p r ih =>
    obtain ⟨s', v'⟩ := p
    intro s v hv
    simp only [lk] at hv
    cases hb : Nat.beq s s' with
    | true =>
      have e := Nat.eq_of_beq_eq_true hb
      subst e
      rw [hb] at hv
      simp only [cond_true, Option.some.injEq] at hv
      subst hv
      exact h.1
    | false =>
      rw [hb] at hv
      exact ih h.2 s v hv

theorem Sl.sub {n : Nat} {D : List Deferred} {L l : List (Nat × Value)} {a : Act} (h : Sl n D l a) (hs : subS L l) : Sl n D L a :=
  ⟨h.d, h.size, fun s v hv => h.at_ s v (hs.at_ s v hv)⟩

def opv (l : List (Nat × Value)) : Operand → Option Value
  | .tmp t => lk t l
  | .const v => some v
  | .global g => some (.pointer (some ⟨g, 0, none⟩))
  | .func f => some (.func (.func f) #[] #[])

theorem Sl.eval {n : Nat} {D : List Deferred} {l : List (Nat × Value)} {a : Act} (h : Sl n D l a) {x : Operand} {v : Value} (hx : opv l x = some v) : a.eval x = v := by
  cases x with
  | tmp t => exact h.at_ t v hx
  | const c => exact Option.some.inj hx
  | global g => exact Option.some.inj hx
  | func f => exact Option.some.inj hx

def opvs (l : List (Nat × Value)) : List Operand → Option (List Value)
  | [] => some []
  | x :: r => match opv l x, opvs l r with
    | some v, some vs => some (v :: vs)
    | _, _ => none

theorem opvs_map {l : List (Nat × Value)} {ev : Operand → Value} (hev : ∀ x v, opv l x = some v → ev x = v) : ∀ (xs : List Operand) (vs : List Value), opvs l xs = some vs → xs.map ev = vs
  | [], vs, h => by simp [opvs] at h; simp [h]
  | x :: r, vs, h => by
    simp only [opvs] at h
    cases h1 : opv l x with
    | none => simp [h1] at h
    | some v =>
      cases h2 : opvs l r with
      | none => simp [h1, h2] at h
      | some us =>
        simp [h1, h2] at h
        subst h
        simp [hev x v h1, opvs_map hev r us h2]

/-! ### 2. Memory -/

inductive Res where
  | blk (g : Nat) (cs : List Value) (e : TypeId)
  | own (A : Option Addr) (c n : Nat) (xs : List Value) (e : TypeId) (sz : Nat)
  | obj (g : Nat) (o : Obj)

def Res.at (B : Nat) (w : World) : Res → Prop
  | .blk g cs e => B ≤ g ∧ w.heap[g]? = some (.cells cs.toArray e (0, 0))
  | .own A c n xs e sz => w.ownsRow B e sz (.slice A n c) n xs
  | .obj g o => B ≤ g ∧ w.heap[g]? = some o

def Res.block : Res → Option Nat
  | .blk g _ _ => some g
  | .own A _ _ _ _ _ => A.map (·.block)
  | .obj g _ => some g

def Res.apart (r s : Res) : Prop := ∀ g, r.block = some g → s.block ≠ some g

structure Mem (w0 : World) (m : List Res) (w : World) : Prop where
  below : Below w0.heap.size w0 w
  all : ∀ (i : Nat) (r : Res), m[i]? = some r → r.at w0.heap.size w
  apart : ∀ (i j : Nat) (r s : Res), i ≠ j → m[i]? = some r → m[j]? = some s → r.apart s

theorem Mem.refl (w : World) : Mem w [] w := ⟨Below.refl _ _, by simp, by simp⟩

theorem at_lt {B : Nat} {w : World} {r : Res} (h : r.at B w) : ∀ g, r.block = some g → B ≤ g ∧ g < w.heap.size := by
  intro g hg
  cases r with
  | blk g' cs e =>
    simp only [Res.block, Option.some.injEq] at hg
    subst hg
    exact ⟨h.1, (Array.getElem?_eq_some_iff.1 h.2).1⟩
  | own A c n xs e sz =>
    cases A with
    | none => simp [Res.block] at hg
    | some a => exact World.ownsRow.lt h g (by simpa [Res.block, Value.ownBlock] using hg)
  | obj g' o =>
    simp only [Res.block, Option.some.injEq] at hg
    subst hg
    exact ⟨h.1, (Array.getElem?_eq_some_iff.1 h.2).1⟩

/-- A resource lives on where its block is left alone. -/
theorem res_kept {B : Nat} {w w' : World} {row : Option Nat} {r : Res} (h : r.at B w) (hg : w.grownBy w' row) (hne : ∀ g, r.block = some g → row ≠ some g) : r.at B w' := by
  cases r with
  | blk g cs e =>
    have := hne g rfl
    exact ⟨h.1, (hg.block g (Array.getElem?_eq_some_iff.1 h.2).1 (fun x => this x.symm)).trans h.2⟩
  | own A c n xs e sz =>
    refine World.ownsRow.kept h hg ?_
    cases A with
    | none => exact .inl rfl
    | some a =>
      have := hne a.block rfl
      exact .inr (fun x => this (by rw [← x]; rfl))
  | obj g o =>
    have := hne g rfl
    exact ⟨h.1, (hg.block g (Array.getElem?_eq_some_iff.1 h.2).1 (fun x => this x.symm)).trans h.2⟩

theorem Mem.bnd {w0 w : World} {m : List Res} (h : Mem w0 m w) : w0.heap.size ≤ w.heap.size := h.below.size

/-- New blocks came, nothing that was there has turned. -/
theorem Mem.grow {w0 w w' : World} {m : List Res} (h : Mem w0 m w) (hg : w.grownBy w' none) : Mem w0 m w' :=
  ⟨h.below.grown hg h.bnd (by simp), fun i r hi => res_kept (h.all i r hi) hg (by simp), h.apart⟩

theorem Mem.of_below {w0 w w' : World} {m : List Res} (h : Mem w0 m w) (hb : Below w.heap.size w w') : Mem w0 m w' :=
  h.grow ⟨hb.os, hb.tape, hb.output, hb.size, fun k hk _ => hb.block k hk⟩

/-- .. and a new one is known. -/
theorem Mem.add {w0 w w' : World} {m : List Res} (h : Mem w0 m w) (hg : w.grownBy w' none) {r : Res} (hr : r.at w0.heap.size w') (hnew : ∀ g, r.block = some g → w.heap.size ≤ g) : Mem w0 (r :: m) w' := by
  have h' := h.grow hg
  refine ⟨h'.below, ?_, ?_⟩
  · intro i s hi
    cases i with
    | zero => simp at hi; exact hi ▸ hr
    | succ i => exact h'.all i s (by simpa using hi)
  · intro i j s t hij hi hj
    cases i with
    | zero =>
      simp at hi; subst hi
      cases j with
      | zero => exact absurd rfl hij
      | succ j =>
        have hj' : m[j]? = some t := by simpa using hj
        intro g hg1 hg2
        have := at_lt (h.all j t hj') g hg2
        have := hnew g hg1
        omega
    | succ i =>
      have hi' : m[i]? = some s := by simpa using hi
      cases j with
      | zero =>
        simp at hj; subst hj
        intro g hg1 hg2
        have := at_lt (h.all i s hi') g hg1
        have := hnew g hg2
        omega
      | succ j => exact h.apart i j s t (by omega) hi' (by simpa using hj)

/-- One resource turns, its block alone being written (or left for a new one). -/
theorem Mem.upd {w0 w w' : World} {m : List Res} (h : Mem w0 m w) {i : Nat} {r r' : Res} (hi : m[i]? = some r) (hg : w.grownBy w' r.block) (hr : r'.at w0.heap.size w')
    (hb : ∀ g, r'.block = some g → r.block = some g ∨ w.heap.size ≤ g) : Mem w0 (m.set i r') w' := by
  have hlt : i < m.length := (List.getElem?_eq_some_iff.1 hi).1
  have hB : ∀ g, r.block = some g → w0.heap.size ≤ g := fun g e => (at_lt (h.all i r hi) g e).1
  refine ⟨h.below.grown hg h.bnd hB, ?_, ?_⟩
  · intro j s hj
    rw [List.getElem?_set] at hj
    split at hj
    · simp [hlt] at hj; exact hj ▸ hr
    · rename_i hne
      refine res_kept (h.all j s hj) hg ?_
      intro g hs hr2
      exact h.apart i j r s hne hi hj g hr2 hs
  · intro j k s t hjk hj hk
    rw [List.getElem?_set] at hj hk
    by_cases e1 : i = j
    · subst e1
      simp [hlt] at hj
      subst hj
      rw [if_neg hjk] at hk
      intro g g1 g2
      rcases hb g g1 with h1 | h1
      · exact h.apart i k r t hjk hi hk g h1 g2
      · have := at_lt (h.all k t hk) g g2
        omega
    · rw [if_neg e1] at hj
      by_cases e2 : i = k
      · subst e2
        simp [hlt] at hk
        subst hk
        intro g g1 g2
        rcases hb g g2 with h1 | h1
        · exact h.apart j i s r hjk hj hi g g1 h1
        · have := at_lt (h.all j s hj) g g1
          omega
      · rw [if_neg e2] at hk
        exact h.apart j k s t hjk hj hk

theorem Mem.tail {w0 w : World} {r : Res} {m : List Res} (h : Mem w0 (r :: m) w) : Mem w0 m w :=
  ⟨h.below, fun i s hi => h.all (i + 1) s (by simpa using hi), fun i j s t hij hi hj => h.apart (i + 1) (j + 1) s t (by omega) (by simpa using hi) (by simpa using hj)⟩

theorem Mem.appR {w0 w : World} {m m0 : List Res} (h : Mem w0 (m ++ m0) w) : Mem w0 m0 w := by
  induction m with
  | nil => exact h
  | cons r m ih => exact ih (Mem.tail h)

theorem Mem.appL {w0 w : World} {m m0 : List Res} (h : Mem w0 (m ++ m0) w) : Mem w0 m w :=
  ⟨h.below, fun i s hi => h.all i s (by rw [List.getElem?_append_left (List.getElem?_eq_some_iff.1 hi).1]; exact hi),
   fun i j s t hij hi hj => h.apart i j s t hij (by rw [List.getElem?_append_left (List.getElem?_eq_some_iff.1 hi).1]; exact hi) (by rw [List.getElem?_append_left (List.getElem?_eq_some_iff.1 hj).1]; exact hj)⟩

/-- Some of the resources, in another order: 'is' their places. -/
theorem Mem.sel {w0 w : World} {m m0 m' : List Res} (h : Mem w0 (m ++ m0) w) (is : List Nat) (hnd : is.Nodup) (hm : is.map (m[·]?) = m'.map some) : Mem w0 (m' ++ m0) w := by
  have hlen : is.length = m'.length := by simpa using congrArg List.length hm
  have key : ∀ (k : Nat) (r : Res), (m' ++ m0)[k]? = some r → ∃ i, (m ++ m0)[i]? = some r ∧ ((k < m'.length ∧ ∃ j, is[k]? = some j ∧ i = j ∧ j < m.length) ∨ (m'.length ≤ k ∧ i = m.length + (k - m'.length))) := by
    intro k r hk
    by_cases hlt : k < m'.length
    · rw [List.getElem?_append_left hlt] at hk
      have h1 : (is.map (m[·]?))[k]? = some (some r) := by rw [hm]; simp [hk]
      rw [List.getElem?_map] at h1
      cases hj : is[k]? with
      | none => rw [hj] at h1; simp at h1
      | some j =>
        rw [hj] at h1
        simp only [Option.map_some, Option.some.injEq] at h1
        have hjl := (List.getElem?_eq_some_iff.1 h1).1
        exact ⟨j, by rw [List.getElem?_append_left hjl]; exact h1, .inl ⟨hlt, j, rfl, rfl, hjl⟩⟩
    · rw [List.getElem?_append_right (by omega)] at hk
      refine ⟨m.length + (k - m'.length), ?_, .inr ⟨by omega, rfl⟩⟩
      rw [List.getElem?_append_right (by omega)]
      simpa using hk
  refine ⟨h.below, ?_, ?_⟩
  · intro k r hk
    obtain ⟨i, hi, _⟩ := key k r hk
    exact h.all i r hi
  · intro k k' r s hne hk hk'
    obtain ⟨i, hi, hc⟩ := key k r hk
    obtain ⟨i', hi', hc'⟩ := key k' s hk'
    refine h.apart i i' r s ?_ hi hi'
    rcases hc with ⟨h1, j, hj, rfl, hjl⟩ | ⟨h1, rfl⟩
    · rcases hc' with ⟨h2, j', hj', rfl, hjl'⟩ | ⟨h2, rfl⟩
      · intro e
        subst e
        have hk1 := (List.getElem?_eq_some_iff.1 hj)
        have hk2 := (List.getElem?_eq_some_iff.1 hj')
        obtain ⟨a1, b1⟩ := hk1
        obtain ⟨a2, b2⟩ := hk2
        exact hne ((List.getElem_inj hnd).1 (b1.trans b2.symm))
      · omega
    · rcases hc' with ⟨h2, j', hj', rfl, hjl'⟩ | ⟨h2, rfl⟩
      · omega
      · omega

theorem grownBy_none_of_below {w w' : World} (hb : Below w.heap.size w w') : w.grownBy w' none := ⟨hb.os, hb.tape, hb.output, hb.size, fun k hk _ => hb.block k hk⟩

theorem Mem.alloc {w0 w : World} {m : List Res} (h : Mem w0 m w) (cs : List Value) (e : TypeId) : Mem w0 (.blk w.heap.size cs e :: m) (w.alloc (.cells cs.toArray e)) :=
  h.add (World.grownBy_alloc w _ none) ⟨h.bnd, heap_alloc_new w _⟩ (fun g hg => by simp [Res.block] at hg; omega)

theorem Mem.drew {w0 w : World} {m : List Res} (h : Mem w0 m w) : Mem w0 m w.drew := h.of_below ((Below.refl _ w).drew)

/-! ### 3. The judgements -/

structure Cx where
  r : Option Nat
  P : Program
  n : Nat
  D : List Deferred
  w0 : World
  m0 : List Res

def FW (r : Option Nat) : Fence := { fn := fun _ => True, depth := none, alive := false, round := r }

abbrev Po := Exit → Act → World → Prop

def Cx.St (C : Cx) (l : List (Nat × Value)) (m : List Res) (a : Act) (w : World) : Prop := Sl C.n C.D l a ∧ Mem C.w0 (m ++ C.m0) w

def WC (C : Cx) (Q : Po) (c : Code) (l : List (Nat × Value)) (m : List Res) : Prop := ∀ a w, C.St l m a w → c.wpIn (FW C.r) 0 C.P Q a w
def WL (C : Cx) (Q : Po) (ops : Array Oper) (rest : List Oper) (l : List (Nat × Value)) (m : List Res) : Prop := ∀ a w, C.St l m a w → wpListIn (FW C.r) 0 C.P ops Q rest a w
def WE (C : Cx) (Q : Po) (e : Exit) (l : List (Nat × Value)) (m : List Res) : Prop := ∀ a w, C.St l m a w → Q e a w
/-- A region that asks the tape for its order, walked in the order of the text. -/
def WQ (C : Cx) (Q : Po) (ops : Array Oper) (rest : List Oper) (l : List (Nat × Value)) (m : List Res) : Prop :=
  ∀ a, Sl C.n C.D l a → wpQuietIn (FW C.r) 0 C.P ops (fun w => Mem C.w0 (m ++ C.m0) w) (fun a' => ∀ w', Mem C.w0 (m ++ C.m0) w' → Q .normal a' w') rest a


section rules
variable {C : Cx} {Q : Po} {l L : List (Nat × Value)} {m M : List Res}

/-- What follows, behind a variable. -/
def CK (C : Cx) (K : Act → World → Prop) (l : List (Nat × Value)) (m : List Res) : Prop := ∀ a w, C.St l m a w → K a w
theorem WC.seq {x y : Code} (h : ∀ K : Act → World → Prop, (∀ l m, WC C Q y l m → CK C K l m) → WC C (Exit.then K Q) x l m) : WC C Q (.seq x y) l m := fun a w hs => wpIn_seq (h (fun a w => y.wpIn (FW C.r) 0 C.P Q a w) (fun l m h => h) a w hs)
theorem WC.skip (h : WE C Q .normal l m) : WC C Q .skip l m := fun a w hs => wpIn_skip (h a w hs)
theorem WC.label {i : Nat} (h : WE C Q .normal l m) : WC C Q (.label i) l m := fun a w hs => wpIn_label (h a w hs)
theorem WC.exit {i : Nat} (h : WE C Q (.exit i) l m) : WC C Q (.exit i) l m := fun a w hs => wpIn_exit (h a w hs)
theorem WC.ret (h : WE C Q .ret l m) : WC C Q .ret l m := fun a w hs => wpIn_ret (h a w hs)
theorem WC.block {i : Nat} {c : Code} (h : WC C (Exit.inBlock i Q) c l m) : WC C Q (.block i c) l m := fun a w hs => wpIn_block (h a w hs)
theorem WC.cond_t {c : Operand} {x y : Code} (hc : opv l c = some (.bool true)) (h : WC C Q x l m) : WC C Q (.cond c x y) l m := fun a w hs => wpIn_cond (hs.1.eval hc) (h a w hs)
theorem WC.cond_f {c : Operand} {x y : Code} (hc : opv l c = some (.bool false)) (h : WC C Q y l m) : WC C Q (.cond c x y) l m := fun a w hs => wpIn_cond (hs.1.eval hc) (h a w hs)
theorem WC.cond {c : Operand} {x y : Code} {b : Bool} (hc : opv l c = some (.bool b)) (ht : b = true → WC C Q x l m) (hf : b = false → WC C Q y l m) : WC C Q (.cond c x y) l m := by
  cases b
  · exact .cond_f hc (hf rfl)
  · exact .cond_t hc (ht rfl)
theorem WC.region {i : Nat} {ops : List Oper} (h : WL C Q ops.toArray ops l m) : WC C Q (.region i ops.toArray false) l m := fun a w hs => wpIn_region_lit (h a w hs)
theorem WC.draws {i : Nat} {ops : List Oper} (hr : C.r = none) (hm : C.P.follows .mixedOrders = true) (hB : Region.lexB .any ops.toArray = true) (h : WQ C Q ops.toArray ops l m) : WC C Q (.region i ops.toArray true) l m :=
  fun a w hs => wpIn_region_quiet hr hm hB (C := fun w => Mem C.w0 (m ++ C.m0) w) (hs.2.drew) (h a hs.1)
theorem WC.weaken {c : Code} (hS : subS L l) (hM : ∀ w, Mem C.w0 (m ++ C.m0) w → Mem C.w0 (M ++ C.m0) w) (h : WC C Q c L M) : WC C Q c l m := fun a w hs => h a w ⟨hs.1.sub hS, hM w hs.2⟩
theorem WE.weaken {e : Exit} (hS : subS L l) (hM : ∀ w, Mem C.w0 (m ++ C.m0) w → Mem C.w0 (M ++ C.m0) w) (h : WE C Q e L M) : WE C Q e l m := fun a w hs => h a w ⟨hs.1.sub hS, hM w hs.2⟩
theorem WL.weaken {ops : Array Oper} {rest : List Oper} (hS : subS L l) (hM : ∀ w, Mem C.w0 (m ++ C.m0) w → Mem C.w0 (M ++ C.m0) w) (h : WL C Q ops rest L M) : WL C Q ops rest l m := fun a w hs => h a w ⟨hs.1.sub hS, hM w hs.2⟩
theorem WC.scope {c : Code} (hr : C.r = none) (h : WC C (Exit.noGoto Q) c l m) : WC C Q (.scope c) l m := by
  intro a w hs
  have h' := h a w hs
  rw [hr] at h' ⊢
  exact wpIn_wide.2 (wp_scope_straight (wpIn_wide.1 h'))

def back {α : Type} (C : Cx) (L : α → List (Nat × Value)) (M : α → List Res) (φ : α → Prop) (μ : α → Nat) (k : Nat) : Act → World → Prop := fun a w => ∃ x, φ x ∧ μ x < k ∧ C.St (L x) (M x) a w

theorem WC.loop {α : Type} {c : Code} (L : α → List (Nat × Value)) (M : α → List Res) (φ : α → Prop) (μ : α → Nat) (x0 : α) (h0 : φ x0) (hS : subS (L x0) l) (hM : ∀ w, Mem C.w0 (m ++ C.m0) w → Mem C.w0 (M x0 ++ C.m0) w)
    (round : ∀ x, φ x → WC C (Exit.then (back C L M φ μ (μ x)) Q) c (L x) (M x)) : WC C Q (.loop c) l m := by
  intro a w hs
  refine wpIn_loop_ghost (fun k a w => ∃ x, φ x ∧ μ x = k ∧ C.St (L x) (M x) a w) (μ x0) ⟨x0, h0, rfl, hs.1.sub hS, hM w hs.2⟩ ?_
  rintro k a w ⟨x, hx, rfl, hst⟩
  refine wpIn_mono (round x hx a w hst) ?_
  intro e a' w' hq
  cases e with
  | normal =>
    obtain ⟨x', h1, h2, h3⟩ := hq
    exact ⟨μ x', h2, x', h1, rfl, h3⟩
  | exit id => exact hq
  | goto l => exact hq
  | ret => exact hq
  | panic ch => exact hq
  | outgrown => exact hq

theorem WE.back {α : Type} {L : α → List (Nat × Value)} {M : α → List Res} {φ : α → Prop} {μ : α → Nat} {k : Nat} (x : α) (hx : φ x) (hk : μ x < k) (hS : subS (L x) l) (hM : ∀ w, Mem C.w0 (m ++ C.m0) w → Mem C.w0 (M x ++ C.m0) w) :
    WE C (Exit.then (Gp.back C L M φ μ k) Q) .normal l m := fun a w hs => ⟨x, hx, hk, hs.1.sub hS, hM w hs.2⟩

def met {α : Type} (C : Cx) (L : α → List (Nat × Value)) (M : α → List Res) (φ : α → Prop) : Act → World → Prop := fun a w => ∃ x, φ x ∧ C.St (L x) (M x) a w
/-- Where the ways through a statement meet again. -/
theorem WC.cut {α : Type} {x y : Code} (L : α → List (Nat × Value)) (M : α → List Res) (φ : α → Prop) (h1 : WC C (Exit.then (met C L M φ) Q) x l m) (h2 : ∀ z, φ z → WC C Q y (L z) (M z)) : WC C Q (.seq x y) l m := fun a w hs => by
  refine wpIn_seq (wpIn_mono (h1 a w hs) ?_)
  intro e a' w' hq
  cases e with
  | normal =>
    obtain ⟨z, hz, hst⟩ := hq
    exact h2 z hz a' w' hst
  | exit id => exact hq
  | goto l => exact hq
  | ret => exact hq
  | panic ch => exact hq
  | outgrown => exact hq
theorem WE.met {α : Type} {L : α → List (Nat × Value)} {M : α → List Res} {φ : α → Prop} (x : α) (hx : φ x) (hS : subS (L x) l) (hM : ∀ w, Mem C.w0 (m ++ C.m0) w → Mem C.w0 (M x ++ C.m0) w) : WE C (Exit.then (Gp.met C L M φ) Q) .normal l m := fun a w hs => ⟨x, hx, hs.1.sub hS, hM w hs.2⟩
theorem WE.then_n {K : Act → World → Prop} {y : Code} (hK : ∀ l m, WC C Q y l m → CK C K l m) (h : WC C Q y l m) : WE C (Exit.then K Q) .normal l m := hK l m h
theorem WE.then_x {K : Act → World → Prop} {i : Nat} (h : WE C Q (.exit i) l m) : WE C (Exit.then K Q) (.exit i) l m := h
theorem WE.then_r {K : Act → World → Prop} (h : WE C Q .ret l m) : WE C (Exit.then K Q) .ret l m := h
theorem WE.blk_n {i : Nat} (h : WE C Q .normal l m) : WE C (Exit.inBlock i Q) .normal l m := h
theorem WE.blk_r {i : Nat} (h : WE C Q .ret l m) : WE C (Exit.inBlock i Q) .ret l m := h
theorem WE.blk_x {i : Nat} (h : WE C Q .normal l m) : WE C (Exit.inBlock i Q) (.exit i) l m := fun a w hs => by simp only [Exit.inBlock, if_true]; exact h a w hs
theorem WE.blk_y {i j : Nat} (hij : Nat.beq j i = false) (h : WE C Q (.exit j) l m) : WE C (Exit.inBlock i Q) (.exit j) l m := fun a w hs => by
  have : j ≠ i := fun e => by rw [e, Nat.beq_refl] at hij; cases hij
  simp only [Exit.inBlock, this, if_false]; exact h a w hs
theorem WE.sc_n (h : WE C Q .normal l m) : WE C (Exit.noGoto Q) .normal l m := h
theorem WE.sc_r (h : WE C Q .ret l m) : WE C (Exit.noGoto Q) .ret l m := h
theorem WE.sc_x {i : Nat} (h : WE C Q (.exit i) l m) : WE C (Exit.noGoto Q) (.exit i) l m := h

theorem WL.nil {ops : Array Oper} (h : WE C Q .normal l m) : WL C Q ops [] l m := h
theorem WQ.nil {ops : Array Oper} (h : WE C Q .normal l m) : WQ C Q ops [] l m := fun a hs => fun w hw => h a w ⟨hs, hw⟩

/-! ### 4. Operations -/

/-- What an operation does, whatever else the frame and the world hold: it yields v, some x making it out. -/
def Ev {α : Type} (C : Cx) (l : List (Nat × Value)) (m : List Res) (o : Oper) (φ : α → Prop) (v : α → Value) (m' : α → List Res) : Prop :=
  ∀ ev : Operand → Value, (∀ x u, opv l x = some u → ev x = u) → ∀ w, Mem C.w0 (m ++ C.m0) w → ∃ x w', φ x ∧ (execOp ev o).run C.P w = .ok (.value (v x)) w' ∧ Mem C.w0 (m' x ++ C.m0) w'

/-- .. it yields v and leaves the world alone. -/
def Qv (C : Cx) (l : List (Nat × Value)) (m : List Res) (o : Oper) (v : Value) : Prop :=
  ∀ ev : Operand → Value, (∀ x u, opv l x = some u → ev x = u) → ∀ w, Mem C.w0 (m ++ C.m0) w → (execOp ev o).run C.P w = .ok (.value v) w

/-- .. it yields nothing (a store). -/
def Sv (C : Cx) (l : List (Nat × Value)) (m : List Res) (o : Oper) (m' : List Res) : Prop :=
  ∀ ev : Operand → Value, (∀ x u, opv l x = some u → ev x = u) → ∀ w, Mem C.w0 (m ++ C.m0) w → ∃ w', (execOp ev o).run C.P w = .ok .skip w' ∧ Mem C.w0 (m' ++ C.m0) w'

def noDefer : Op → Bool
  | .defer _ => false
  | _ => true

theorem semAt_of {r : Option Nat} {ev : Operand → Value} {o : Oper} (h : noDefer o.op = true) : Oper.semAt r ev o = execOp ev o :=
  Oper.semAt_eq r ev o (fun c e => by rw [e] at h; cases h)

end rules


section
variable {C : Cx} {Q : Po} {l : List (Nat × Value)} {m : List Res} {ops : Array Oper} {rest : List Oper}

/-- Is the operation wanted? -/
def wants (ops : Array Oper) (l : List (Nat × Value)) : Option (Nat × Bool) → Option Bool
  | none => some true
  | some (j, b) => match ((ops[j]?).bind (·.dst)).bind (lk · l) with
    | some (.bool c) => some (bif c then b else !b)
    | some (.tuple _) => some false
    | _ => none

theorem wanted_of {n : Nat} {D : List Deferred} {a : Act} (h : Sl n D l a) {o : Oper} {t : Bool} (hw : wants ops l o.guard = some t) : Region.wanted o (yielded ops a.tmps) = t := by
  unfold Region.wanted
  cases hg : o.guard with
  | none => rw [hg] at hw; simpa [wants] using hw
  | some jb =>
    obtain ⟨j, b⟩ := jb
    rw [hg] at hw
    simp only [wants] at hw
    cases hd : (ops[j]?).bind (·.dst) with
    | none => rw [hd] at hw; simp at hw
    | some d =>
      rw [hd] at hw
      simp only [Option.bind_some] at hw
      cases hv : lk d l with
      | none => rw [hv] at hw; simp at hw
      | some v =>
        rw [hv] at hw
        have hat := h.at_ d v hv
        cases v with
        | bool c =>
          have hy : yielded ops a.tmps j = some c := by
            unfold yielded
            rw [hd]
            simp only [Option.bind_some]
            cases ht : a.tmps[d]? with
            | none => simp [Array.getD_eq_getD_getElem?, ht, undef] at hat
            | some u => simp [Array.getD_eq_getD_getElem?, ht] at hat; subst hat; rfl
          simp only [hy]
          cases c <;> cases b <;> simpa using hw
        | tuple vs =>
          have hy : yielded ops a.tmps j = none := by
            unfold yielded
            rw [hd]
            simp only [Option.bind_some]
            cases ht : a.tmps[d]? with
            | none => rfl
            | some u => simp [Array.getD_eq_getD_getElem?, ht] at hat; subst hat; rfl
          simp only [hy]
          simp at hw
          subst hw
          rfl
        | _ => simp at hw

/-- A list of operations, in a region that does not draw its order (false), or does (true). -/
def WX : Bool → Cx → Po → Array Oper → List Oper → List (Nat × Value) → List Res → Prop
  | false => WL
  | true => WQ

theorem WC.region_ {i : Nat} {ops : List Oper} (h : WX false C Q ops.toArray ops l m) : WC C Q (.region i ops.toArray false) l m := WC.region h
theorem WC.draws_ {i : Nat} {ops : List Oper} (hr : C.r = none) (hm : C.P.follows .mixedOrders = true) (hB : Region.lexB .any ops.toArray = true) (h : WX true C Q ops.toArray ops l m) : WC C Q (.region i ops.toArray true) l m := WC.draws hr hm hB h
theorem WX.nil {b : Bool} (h : WE C Q .normal l m) : WX b C Q ops [] l m := by
  cases b
  · exact WL.nil h
  · exact WQ.nil h

theorem ev_of {n : Nat} {D : List Deferred} {a : Act} (h : Sl n D l a) : ∀ x u, opv l x = some u → a.eval x = u := fun _ _ hx => h.eval hx

theorem fw_fn (r : Option Nat) (f : FuncId) : (FW r).fn f := trivial

theorem wpListIn_wanted {r : Option Nat} {P : Program} {a : Act} {w : World} {o : Oper} (hw : Region.wanted o (yielded ops a.tmps) = true) (hnd : noDefer o.op = true)
    (h : o.uponIn (FW r) 0 P a (wpListIn (FW r) 0 P ops Q rest) Q ((execOp a.eval o).run P w)) : wpListIn (FW r) 0 P ops Q (o :: rest) a w := by
  simp only [wpListIn, hw, if_true, Oper.wpIn]
  refine ⟨fun f _ => trivial, ?_⟩
  rw [semAt_of hnd]
  exact h

/-- An operation that leaves the world alone. -/
theorem WX.q {b : Bool} {o : Oper} {v : Value} {d : Nat} (hv : Qv C l m o v) (hd : o.dst = some d) (hdn : Nat.blt d C.n = true) (hg : wants ops l o.guard = some true) (hnd : noDefer o.op = true)
    (k : WX b C Q ops rest ((d, v) :: l) m) : WX b C Q ops (o :: rest) l m := by
  cases b
  · intro a w hs
    have hr := hv a.eval (ev_of hs.1) w hs.2
    refine wpListIn_wanted (wanted_of hs.1 hg) hnd ?_
    rw [hr]
    simp only [Oper.uponIn_value, hd]
    exact k _ _ ⟨hs.1.put d v hdn, hs.2⟩
  · intro a hs
    refine ⟨fun w hw f hf => trivial, ?_⟩
    rw [if_pos (wanted_of hs hg)]
    refine ⟨v, fun w hw => ?_, ?_⟩
    · unfold Oper.quietAtIn
      rw [hv a.eval (ev_of hs) w hw]
      exact ⟨rfl, rfl⟩
    · rw [hd]
      exact k _ (hs.put d v hdn)

/-- One that is passed over. -/
theorem WX.skip {b : Bool} {o : Oper} {d : Nat} (hd : o.dst = some d) (hdn : Nat.blt d C.n = true) (hg : wants ops l o.guard = some false)
    (k : WX b C Q ops rest ((d, undef) :: l) m) : WX b C Q ops (o :: rest) l m := by
  cases b
  · intro a w hs
    simp only [wpListIn, wanted_of hs.1 hg]
    refine ⟨fun f _ => trivial, ?_⟩
    rw [hd]
    exact k _ _ ⟨hs.1.put d undef hdn, hs.2⟩
  · intro a hs
    refine ⟨fun w hw f hf => trivial, ?_⟩
    rw [if_neg (by rw [wanted_of hs hg]; simp)]
    rw [hd]
    exact k _ (hs.put d undef hdn)

theorem WX.ev {α : Type} {o : Oper} {φ : α → Prop} {v : α → Value} {m' : α → List Res} {d : Nat} (hv : Ev C l m o φ v m') (hd : o.dst = some d) (hdn : Nat.blt d C.n = true) (hg : wants ops l o.guard = some true) (hnd : noDefer o.op = true)
    (k : ∀ x, φ x → WX false C Q ops rest ((d, v x) :: l) (m' x)) : WX false C Q ops (o :: rest) l m := by
  intro a w hs
  obtain ⟨x, w', hx, hr, hm⟩ := hv a.eval (ev_of hs.1) w hs.2
  refine wpListIn_wanted (wanted_of hs.1 hg) hnd ?_
  rw [hr]
  simp only [Oper.uponIn_value, hd]
  exact k x hx _ _ ⟨hs.1.put d _ hdn, hm⟩

theorem WX.st {o : Oper} {m' : List Res} (hv : Sv C l m o m') (hd : o.dst = none) (hg : wants ops l o.guard = some true) (hnd : noDefer o.op = true)
    (k : WX false C Q ops rest l m') : WX false C Q ops (o :: rest) l m := by
  intro a w hs
  obtain ⟨w', hr, hm⟩ := hv a.eval (ev_of hs.1) w hs.2
  refine wpListIn_wanted (wanted_of hs.1 hg) hnd ?_
  rw [hr]
  simp only [Oper.uponIn_skip, hd]
  exact k _ _ ⟨hs.1.none_ _, hm⟩

/-! ### The single operations that leave the world alone -/
section q
variable {d : Option Nat} {ty : TypeId} {pos : String} {af : Array Edge} {g : Option (Nat × Bool)}

theorem Qv.move {x : Operand} {v : Value} (hx : opv l x = some v) : Qv C l m ⟨d, .move x, ty, pos, af, g⟩ v := fun ev hev w _ => by simp [execOp, hev x v hx]
theorem Qv.assign {x : Operand} {v : Value} (hx : opv l x = some v) : Qv C l m ⟨d, .assign x, ty, pos, af, g⟩ v := fun ev hev w _ => by simp [execOp, hev x v hx]
theorem Qv.pick_t {c x y : Operand} {v : Value} (hc : opv l c = some (.bool true)) (hx : opv l x = some v) : Qv C l m ⟨d, .pick c x y, ty, pos, af, g⟩ v := fun ev hev w _ => by simp [execOp, hev c _ hc, hev x v hx, asBool]
theorem Qv.pick_f {c x y : Operand} {v : Value} (hc : opv l c = some (.bool false)) (hy : opv l y = some v) : Qv C l m ⟨d, .pick c x y, ty, pos, af, g⟩ v := fun ev hev w _ => by simp [execOp, hev c _ hc, hev y v hy, asBool]
theorem Qv.extract {x : Operand} {i : Nat} {vs : Array Value} {v : Value} (hx : opv l x = some (.tuple vs)) (hi : vs[i]? = some v) : Qv C l m ⟨d, .extract x i, ty, pos, af, g⟩ v := fun ev hev w _ => by simp [execOp, hev x _ hx, Instr.extract, hi]
theorem Qv.not_ {x : Operand} {b : Bool} {t : TypeId} (hx : opv l x = some (.bool b)) : Qv C l m ⟨d, .unOp .not t x, ty, pos, af, g⟩ (.bool !b) := fun ev hev w _ => by simp [execOp, hev x _ hx, go_sem]
theorem Qv.nilCheck {x : Operand} {a : Addr} (hx : opv l x = some (.pointer (some a))) : Qv C l m ⟨d, .nilCheck x, ty, pos, af, g⟩ (.pointer (some a)) := fun ev hev w _ => by simp [execOp, hev x _ hx]

/-- A binary operation, by its run. -/
theorem Qv.bin {op : BinOp} {t t' : TypeId} {x y : Operand} {u v r : Value} (hx : opv l x = some u) (hy : opv l y = some v) (hgd : ∀ x y, eqGuard op t x y u v = pure ()) (hr : ∀ w, Mem C.w0 (m ++ C.m0) w → (binOp op t u v).run C.P w = .ok r w) :
    Qv C l m ⟨d, .binOp op t x y t', ty, pos, af, g⟩ r := fun ev hev w hw => by
  simp [execOp, hev x _ hx, hev y _ hy, hgd, hr w hw]

theorem Qv.cmp {op : BinOp} {t t' : TypeId} {x y : Operand} {k : IntKind} {p q : Int} {b : Bool} (hx : opv l x = some (.int k p)) (hy : opv l y = some (.int k q)) (hr : ∀ t, binOp op t (.int k p) (.int k q) = pure (.bool b)) :
    Qv C l m ⟨d, .binOp op t x y t', ty, pos, af, g⟩ (.bool b) :=
  Qv.bin hx hy (fun _ _ => eqGuard_at_int ..) (fun w _ => by rw [hr]; rfl)

theorem Qv.lss_t {t t' : TypeId} {x y : Operand} {k : IntKind} {p q : Int} (hx : opv l x = some (.int k p)) (hy : opv l y = some (.int k q)) (h : p < q) : Qv C l m ⟨d, .binOp .lss t x y t', ty, pos, af, g⟩ (.bool true) := Qv.cmp hx hy (fun _ => by rw [binOp_lss, decide_eq_true h])
theorem Qv.lss_f {t t' : TypeId} {x y : Operand} {k : IntKind} {p q : Int} (hx : opv l x = some (.int k p)) (hy : opv l y = some (.int k q)) (h : ¬ p < q) : Qv C l m ⟨d, .binOp .lss t x y t', ty, pos, af, g⟩ (.bool false) := Qv.cmp hx hy (fun _ => by rw [binOp_lss, decide_eq_false h])
theorem Qv.leq_t {t t' : TypeId} {x y : Operand} {k : IntKind} {p q : Int} (hx : opv l x = some (.int k p)) (hy : opv l y = some (.int k q)) (h : p ≤ q) : Qv C l m ⟨d, .binOp .leq t x y t', ty, pos, af, g⟩ (.bool true) := Qv.cmp hx hy (fun _ => by rw [binOp_leq, decide_eq_true h])
theorem Qv.leq_f {t t' : TypeId} {x y : Operand} {k : IntKind} {p q : Int} (hx : opv l x = some (.int k p)) (hy : opv l y = some (.int k q)) (h : ¬ p ≤ q) : Qv C l m ⟨d, .binOp .leq t x y t', ty, pos, af, g⟩ (.bool false) := Qv.cmp hx hy (fun _ => by rw [binOp_leq, decide_eq_false h])
theorem Qv.gtr_t {t t' : TypeId} {x y : Operand} {k : IntKind} {p q : Int} (hx : opv l x = some (.int k p)) (hy : opv l y = some (.int k q)) (h : p > q) : Qv C l m ⟨d, .binOp .gtr t x y t', ty, pos, af, g⟩ (.bool true) := Qv.cmp hx hy (fun _ => by rw [binOp_gtr, decide_eq_true h])
theorem Qv.gtr_f {t t' : TypeId} {x y : Operand} {k : IntKind} {p q : Int} (hx : opv l x = some (.int k p)) (hy : opv l y = some (.int k q)) (h : ¬ p > q) : Qv C l m ⟨d, .binOp .gtr t x y t', ty, pos, af, g⟩ (.bool false) := Qv.cmp hx hy (fun _ => by rw [binOp_gtr, decide_eq_false h])
theorem Qv.geq_t {t t' : TypeId} {x y : Operand} {k : IntKind} {p q : Int} (hx : opv l x = some (.int k p)) (hy : opv l y = some (.int k q)) (h : p ≥ q) : Qv C l m ⟨d, .binOp .geq t x y t', ty, pos, af, g⟩ (.bool true) := Qv.cmp hx hy (fun _ => by rw [binOp_geq, decide_eq_true h])
theorem Qv.geq_f {t t' : TypeId} {x y : Operand} {k : IntKind} {p q : Int} (hx : opv l x = some (.int k p)) (hy : opv l y = some (.int k q)) (h : ¬ p ≥ q) : Qv C l m ⟨d, .binOp .geq t x y t', ty, pos, af, g⟩ (.bool false) := Qv.cmp hx hy (fun _ => by rw [binOp_geq, decide_eq_false h])
theorem Qv.eql_t {t t' : TypeId} {x y : Operand} {k : IntKind} {p q : Int} (hx : opv l x = some (.int k p)) (hy : opv l y = some (.int k q)) (h : p = q) : Qv C l m ⟨d, .binOp .eql t x y t', ty, pos, af, g⟩ (.bool true) := Qv.cmp hx hy (fun _ => by rw [binOp_eql, beq_iff_eq.2 h])
theorem Qv.eql_f {t t' : TypeId} {x y : Operand} {k : IntKind} {p q : Int} (hx : opv l x = some (.int k p)) (hy : opv l y = some (.int k q)) (h : ¬ p = q) : Qv C l m ⟨d, .binOp .eql t x y t', ty, pos, af, g⟩ (.bool false) := Qv.cmp hx hy (fun _ => by rw [binOp_eql, beq_eq_false_iff_ne.2 h])
theorem Qv.neq_t {t t' : TypeId} {x y : Operand} {k : IntKind} {p q : Int} (hx : opv l x = some (.int k p)) (hy : opv l y = some (.int k q)) (h : ¬ p = q) : Qv C l m ⟨d, .binOp .neq t x y t', ty, pos, af, g⟩ (.bool true) := Qv.cmp hx hy (fun _ => by rw [binOp_neq, bne_iff_ne.2 h])
theorem Qv.neq_f {t t' : TypeId} {x y : Operand} {k : IntKind} {p q : Int} (hx : opv l x = some (.int k p)) (hy : opv l y = some (.int k q)) (h : p = q) : Qv C l m ⟨d, .binOp .neq t x y t', ty, pos, af, g⟩ (.bool false) := Qv.cmp hx hy (fun _ => by rw [binOp_neq, bne_eq_false_iff_eq.2 h])

theorem Qv.add {t t' : TypeId} {x y : Operand} {k : IntKind} {p q r : Int} (hx : opv l x = some (.int k p)) (hy : opv l y = some (.int k q)) (h : k.wrap (p + q) = r) : Qv C l m ⟨d, .binOp .add t x y t', ty, pos, af, g⟩ (.int k r) :=
  Qv.bin hx hy (fun _ _ => eqGuard_at_int ..) (fun w _ => by rw [binOp_add, ← h]; simp [go_sem])
theorem Qv.sub {t t' : TypeId} {x y : Operand} {k : IntKind} {p q r : Int} (hx : opv l x = some (.int k p)) (hy : opv l y = some (.int k q)) (h : k.wrap (p - q) = r) : Qv C l m ⟨d, .binOp .sub t x y t', ty, pos, af, g⟩ (.int k r) :=
  Qv.bin hx hy (fun _ _ => eqGuard_at_int ..) (fun w _ => by rw [binOp_sub, ← h]; simp [go_sem])
theorem Qv.mul {t t' : TypeId} {x y : Operand} {k : IntKind} {p q r : Int} (hx : opv l x = some (.int k p)) (hy : opv l y = some (.int k q)) (h : k.wrap (p * q) = r) : Qv C l m ⟨d, .binOp .mul t x y t', ty, pos, af, g⟩ (.int k r) :=
  Qv.bin hx hy (fun _ _ => eqGuard_at_int ..) (fun w _ => by rw [binOp_mul, ← h]; simp [go_sem])

theorem Qv.len_slice {x : Operand} {t : TypeId} {e : TypeId} {A : Option Addr} {n c : Nat} (ht : C.P.underlying t = some (.slice e)) (hx : opv l x = some (.slice A n c)) :
    Qv C l m ⟨d, .call { callee := .builtin .len, args := #[x], argTypes := #[t] }, ty, pos, af, g⟩ (.int .i64 n) := fun ev hev w _ => by
  simp [execOp, resolve, invoke, builtin, hev x _ hx, Builtin.len_, run_underlying ht, goInt]
theorem Qv.len_string {x : Operand} {t : TypeId} {s : ByteArray} (ht : C.P.underlying t = some .string) (hx : opv l x = some (.string s)) :
    Qv C l m ⟨d, .call { callee := .builtin .len, args := #[x], argTypes := #[t] }, ty, pos, af, g⟩ (.int .i64 s.size) := fun ev hev w _ => by
  simp [execOp, resolve, invoke, builtin, hev x _ hx, Builtin.len_, run_underlying ht, goInt]

theorem Qv.makeInterface {x : Operand} {t : TypeId} {u : Value} (hx : opv l x = some u) (hr : ∀ w, (Instr.makeInterface t u).run C.P w = .ok (.iface t u) w) : Qv C l m ⟨d, .makeInterface t x, ty, pos, af, g⟩ (.iface t u) := fun ev hev w _ => by
  simp [execOp, hev x _ hx, hr w]
theorem Qv.makeFunc {f : Fn} {xs : List Operand} {vs : List Value} (hx : opvs l xs = some vs) : Qv C l m ⟨d, .makeFunc f #[] xs.toArray, ty, pos, af, g⟩ (.func f #[] vs.toArray) := fun ev hev w _ => by
  have := opvs_map hev xs vs hx
  simp [execOp, Instr.makeFunc, this]

theorem Qv.fieldAddr {x : Operand} {t i : Nat} {a b : Addr} (hx : opv l x = some (.pointer (some a))) (hr : ∀ w, (Instr.fieldAt t (.pointer (some a)) i).run C.P w = .ok (.pointer (some b)) w) : Qv C l m ⟨d, .fieldAddr t x i, ty, pos, af, g⟩ (.pointer (some b)) := fun ev hev w _ => by
  simp [execOp, hev x _ hx, hr w]
theorem Qv.field {x : Operand} {t i : Nat} {u v : Value} (hx : opv l x = some u) (hr : ∀ w, (Instr.field t u i).run C.P w = .ok v w) : Qv C l m ⟨d, .field t x i, ty, pos, af, g⟩ v := fun ev hev w _ => by
  simp [execOp, hev x _ hx, hr w]
theorem Qv.index {x y : Operand} {t : Nat} {u i v : Value} (hx : opv l x = some u) (hy : opv l y = some i) (hr : ∀ w, (Instr.index t u i).run C.P w = .ok v w) : Qv C l m ⟨d, .index t x y, ty, pos, af, g⟩ v := fun ev hev w _ => by
  simp [execOp, hev x _ hx, hev y _ hy, hr w]
theorem Qv.convert {x : Operand} {t u : TypeId} {v r : Value} (hx : opv l x = some v) (hr : ∀ w, (convert t u v).run C.P w = .ok r w) : Qv C l m ⟨d, .convert t u x, ty, pos, af, g⟩ r := fun ev hev w _ => by
  simp [execOp, hev x _ hx, hr w]
theorem Qv.typeAssert {x : Operand} {t u : TypeId} {b : Bool} {v r : Value} (hx : opv l x = some v) (hr : ∀ w, (Instr.typeAssert v t u b).run C.P w = .ok r w) : Qv C l m ⟨d, .typeAssert x t u b, ty, pos, af, g⟩ r := fun ev hev w _ => by
  simp [execOp, hev x _ hx, hr w]

def opps (l : List (Nat × Value)) : List (Nat × Operand) → Option (List (Nat × Value))
  | [] => some []
  | (i, x) :: r => match opv l x, opps l r with
    | some v, some vs => some ((i, v) :: vs)
    | _, _ => none
theorem opps_map {ev : Operand → Value} (hev : ∀ x v, opv l x = some v → ev x = v) : ∀ (xs : List (Nat × Operand)) (vs : List (Nat × Value)), opps l xs = some vs → xs.map (fun (i, x) => (i, ev x)) = vs
  | [], vs, h => by simp [opps] at h; simp [h]
  | (i, x) :: r, vs, h => by
    simp only [opps] at h
    cases h1 : opv l x with
    | none => simp [h1] at h
    | some v =>
      cases h2 : opps l r with
      | none => simp [h1, h2] at h
      | some us =>
        simp [h1, h2] at h
        subst h
        simp [hev x v h1, opps_map hev r us h2]

theorem Qv.build {t : TypeId} {ps : List (Nat × Operand)} {vs : List (Nat × Value)} {v : Value} (hps : opps l ps = some vs) (hr : ∀ w, (Instr.build t vs.toArray).run C.P w = .ok v w) : Qv C l m ⟨d, .build t ps.toArray, ty, pos, af, g⟩ v := fun ev hev w _ => by
  have := opps_map hev ps vs hps
  simp only [execOp, List.map_toArray, this, Sem.run_bind, hr w, Result.andThen_ok, Sem.run_pure]

/-- The address of a slice's element. -/
theorem Qv.indexAddr {x y : Operand} {t e : TypeId} {A : Option Addr} {n c : Nat} {k : IntKind} {i : Int} (ht : C.P.underlying t = some (.slice e)) (he : (C.P.info? e).map (·.size) = some 1) (hx : opv l x = some (.slice A n c)) (hy : opv l y = some (.int k i))
    (hA : 0 < n → A.isSome = true) (h0 : 0 ≤ i) (h1 : i < n) : Qv C l m ⟨d, .indexAddr t x y, ty, pos, af, g⟩ (.pointer (A.map (·.add i.toNat))) := fun ev hev w _ => by
  cases A with
  | none => exact absurd (hA (by omega)) (by simp)
  | some a =>
    cases hq : C.P.info? e with
    | none => simp [hq] at he
    | some inf =>
      have hs : inf.size = 1 := by simpa [hq] using he
      simp [execOp, hev x _ hx, hev y _ hy, Instr.indexAt, asIntOf, run_underlying ht, h0, h1, sizeOf, typeInfo, hq, hs]

end q

/-! ### Reading -/

/-- What lies in a slice can be read: its elements have one cell each. -/
def Rd (w0 : World) (m : List Res) (A : Option Addr) (xs : List Value) : Prop := ∀ w, Mem w0 m w → ∀ j v, xs[j]? = some v → ∃ a, A = some a ∧ w.cell? (a.add j) = some v

theorem Rd.app {w0 : World} {m0 : List Res} {A : Option Addr} {xs : List Value} (h : Rd w0 m0 A xs) (m : List Res) : Rd w0 (m ++ m0) A xs := fun w hw => h w (Mem.appR hw)
theorem Rd.cons {w0 : World} {m0 : List Res} {A : Option Addr} {xs : List Value} (h : Rd w0 m0 A xs) (r : Res) : Rd w0 (r :: m0) A xs := fun w hw => h w (Mem.tail hw)
theorem Rd.nil {w0 : World} {m0 : List Res} (A : Option Addr) : Rd w0 m0 A [] := fun _ _ j v h => by simp at h
theorem Rd.own {w0 : World} {m : List Res} {A : Option Addr} {c n : Nat} {xs : List Value} {e : TypeId} (i : Nat) (hi : m[i]? = some (.own A c n xs e 1)) : Rd w0 m A xs := fun w hw j v hv => by
  have h := hw.all i _ hi
  cases A with
  | none =>
    rcases h.2 with ⟨h1, h2⟩ | ⟨g, cap, cur, h1, _⟩
    · have := h.1
      rw [h2] at this
      have : xs = [] := List.eq_nil_of_length_eq_zero (by simpa using this)
      subst this
      simp at hv
    · simp at h1
  | some a =>
    refine ⟨a, rfl, ?_⟩
    rcases h.2 with ⟨h1, _⟩ | ⟨g, cap, cur, h1, _⟩
    · simp at h1
    · have e1 : a = ⟨g, 0, none⟩ := by simpa using (by injection h1 : some a = some ⟨g, 0, none⟩)
      subst e1
      exact World.ownsRow.cells h (g := g) rfl j v hv
theorem Rd.blk {w0 : World} {m : List Res} {g : Nat} {cs : List Value} {e : TypeId} (i : Nat) (hi : m[i]? = some (.blk g cs e)) : Rd w0 m (some ⟨g, 0, none⟩) cs := fun w hw j v hv => by
  have h := hw.all i _ hi
  refine ⟨_, rfl, ?_⟩
  rw [show (⟨g, 0, none⟩ : Addr).add j = ⟨g, j, none⟩ by unfold Addr.add; split <;> simp_all]
  rw [cell_of_row w g j cs.toArray e (0, 0) h.2]
  simpa using hv

section q
variable {d : Option Nat} {ty : TypeId} {pos : String} {af : Array Edge} {g : Option (Nat × Bool)}

def oneTy : TypeDesc → Bool
  | .struct _ | .array _ _ => false
  | _ => true

theorem run_loadVar_one {P : Program} {t : TypeId} {dd : TypeDesc} (ht : P.underlying t = some dd) (h1 : oneTy dd = true) (a : Addr) (w : World) : (loadVar t a).run P w = (load a).run P w := by
  have : (isAgg t).run P w = .ok false w := by
    unfold isAgg
    rw [Sem.run_bind, run_underlying ht w]
    cases dd <;> simp_all [oneTy]
  simp [loadVar, this]

theorem Qv.load_at {x : Operand} {t : TypeId} {dd : TypeDesc} {a : Addr} {v : Value} (ht : C.P.underlying t = some dd) (h1 : oneTy dd = true) (hx : opv l x = some (.pointer (some a))) (hc : ∀ w, Mem C.w0 (m ++ C.m0) w → w.cell? a = some v) :
    Qv C l m ⟨d, .load t x, ty, pos, af, g⟩ v := fun ev hev w hw => by
  simp [execOp, hev x _ hx, Instr.loadAt, Instr.sureAddr, run_loadVar_one ht h1, hc w hw]

theorem Qv.load_rd {x : Operand} {t : TypeId} {dd : TypeDesc} {A : Option Addr} {i : Nat} {xs : List Value} {v : Value} (ht : C.P.underlying t = some dd) (h1 : oneTy dd = true) (hx : opv l x = some (.pointer (A.map (·.add i)))) (hr : Rd C.w0 (m ++ C.m0) A xs) (hv : xs[i]? = some v) :
    Qv C l m ⟨d, .load t x, ty, pos, af, g⟩ v := fun ev hev w hw => by
  obtain ⟨a, rfl, hc⟩ := hr w hw i v hv
  simp [execOp, hev x _ hx, Instr.loadAt, Instr.sureAddr, run_loadVar_one ht h1, hc]

/-- A cell of a known block. -/
theorem Qv.load_blk {x : Operand} {t : TypeId} {dd : TypeDesc} {b o i : Nat} {cs : List Value} {e : TypeId} {v : Value} (ht : C.P.underlying t = some dd) (h1 : oneTy dd = true) (hx : opv l x = some (.pointer (some ⟨b, o, none⟩))) (hi : m[i]? = some (.blk b cs e)) (hv : cs[o]? = some v) :
    Qv C l m ⟨d, .load t x, ty, pos, af, g⟩ v :=
  Qv.load_at ht h1 hx fun w hw => by
    have h := (Mem.appL hw).all i _ hi
    rw [cell_of_row w b o cs.toArray e (0, 0) h.2]
    simpa using hv

/-- A whole block that is a struct's or an array's. -/
theorem Qv.load_all {x : Operand} {t : TypeId} {dd : TypeDesc} {b i : Nat} {cs : List Value} {e : TypeId} (ht : C.P.underlying t = some dd) (h1 : oneTy dd = false) (hz : (C.P.info? t).map (·.size) = some cs.length) (hx : opv l x = some (.pointer (some ⟨b, 0, none⟩))) (hi : m[i]? = some (.blk b cs e)) :
    Qv C l m ⟨d, .load t x, ty, pos, af, g⟩ (.agg cs.toArray) := fun ev hev w hw => by
  have h := (Mem.appL hw).all i _ hi
  have hr := run_loadVar_row (P := C.P) w b e t cs.toArray (0, 0) dd h.2 ht (by cases dd <;> simp_all [oneTy]) (by simpa using hz)
  simp [execOp, hev x _ hx, Instr.loadAt, Instr.sureAddr, hr]

/-- A string's byte. -/
theorem Qv.index_str {x y : Operand} {t : TypeId} {s : ByteArray} {k : IntKind} {i : Int} {v : UInt8} (ht : C.P.underlying t = some .string) (hx : opv l x = some (.string s)) (hy : opv l y = some (.int k i)) (h0 : 0 ≤ i) (hv : s.data[i.toNat]? = some v) :
    Qv C l m ⟨d, .index t x y, ty, pos, af, g⟩ (.int .u8 v.toNat) :=
  Qv.index hx hy fun w => by
    obtain ⟨hlt, e⟩ := Array.getElem?_eq_some_iff.1 hv
    have hlt' : i.toNat < s.size := hlt
    rw [run_index_string w t s k i ht, dif_pos ⟨h0, by omega⟩]
    rw [← e]; rfl
end q

/-! ### Operations that make or write memory -/
section e
variable {d : Option Nat} {ty : TypeId} {pos : String} {af : Array Edge} {g : Option (Nat × Bool)}

theorem Ev.alloc {e : TypeId} {cs : List Value} {z : Value} (hz : ∀ w, (zeroValue e).run C.P w = .ok z w) (hc : z.cells.toList = cs) :
    Ev (α := Nat) C l m ⟨d, .alloc e, ty, pos, af, g⟩ (fun _ => True) (fun b => .pointer (some ⟨b, 0, none⟩)) (fun b => .blk b cs e :: m) := fun ev hev w hw => by
  refine ⟨w.heap.size, w.alloc (.cells cs.toArray e), trivial, ?_, Mem.alloc hw cs e⟩
  subst hc
  simp [execOp, Instr.alloc, hz w, newVar, newRow]

theorem Ev.box {e : TypeId} {x : Operand} {v : Value} {cs : List Value} (hx : opv l x = some v) (hc : v.cells.toList = cs) :
    Ev (α := Nat) C l m ⟨d, .box e x, ty, pos, af, g⟩ (fun _ => True) (fun b => .pointer (some ⟨b, 0, none⟩)) (fun b => .blk b cs e :: m) := fun ev hev w hw => by
  refine ⟨w.heap.size, w.alloc (.cells cs.toArray e), trivial, ?_, Mem.alloc hw cs e⟩
  subst hc
  simp [execOp, hev x _ hx, Instr.box, newVar, newRow]

theorem Ev.buildSlice {t e : TypeId} {n : Nat} {ps : List (Nat × Operand)} {vs : List (Nat × Value)} {cs : List Value} (hps : opps l ps = some vs)
    (hr : ∀ w, (Instr.buildSlice t n vs.toArray).run C.P w = .ok (.slice (some ⟨w.heap.size, 0, none⟩) n n) (w.alloc (.cells cs.toArray e))) :
    Ev (α := Nat) C l m ⟨d, .buildSlice t n ps.toArray, ty, pos, af, g⟩ (fun _ => True) (fun b => .slice (some ⟨b, 0, none⟩) n n) (fun b => .blk b cs e :: m) := fun ev hev w hw => by
  refine ⟨w.heap.size, w.alloc (.cells cs.toArray e), trivial, ?_, Mem.alloc hw cs e⟩
  have := opps_map hev ps vs hps
  simp only [execOp, List.map_toArray, this, Sem.run_bind, hr w, Result.andThen_ok, Sem.run_pure]

/-- .. as a slice that the call owns. -/
theorem Ev.buildOwn {t e : TypeId} {n : Nat} {ps : List (Nat × Operand)} {vs : List (Nat × Value)} {cs : List Value} {sz : Nat} (hps : opps l ps = some vs)
    (hr : ∀ w, (Instr.buildSlice t n vs.toArray).run C.P w = .ok (.slice (some ⟨w.heap.size, 0, none⟩) n n) (w.alloc (.cells cs.toArray e))) (hl : cs.length = n * sz) (hn : n ≤ maxLen) :
    Ev (α := Nat) C l m ⟨d, .buildSlice t n ps.toArray, ty, pos, af, g⟩ (fun _ => True) (fun b => .slice (some ⟨b, 0, none⟩) n n) (fun b => .own (some ⟨b, 0, none⟩) n n cs e sz :: m) := fun ev hev w hw => by
  refine ⟨w.heap.size, w.alloc (.cells cs.toArray e), trivial, ?_, ?_⟩
  · have := opps_map hev ps vs hps
    simp only [execOp, List.map_toArray, this, Sem.run_bind, hr w, Result.andThen_ok, Sem.run_pure]
  · refine hw.add (World.grownBy_alloc w _ none) ⟨hl, .inr ⟨w.heap.size, n, cs.toArray, rfl, hw.bnd, heap_alloc_new w _, Nat.le_refl _, hn, by simpa using hl, ?_⟩⟩ (fun k hk => by simp [Res.block] at hk; omega)
    simp [← hl]

theorem grownBy_setRow {w : World} {b : Nat} (cs : Array Value) : w.grownBy (w.setRow b cs) (some b) := ⟨rfl, rfl, rfl, by simp, fun k _ hk => setRow_other w b k cs (fun e => hk (by rw [e]))⟩

/-- A store of one cell into a known block. -/
theorem Sv.store_blk {x y : Operand} {t : TypeId} {b o i : Nat} {cs : List Value} {e : TypeId} {v : Value} {m' : List Res} (hz : (C.P.info? t).map (·.size) = some 1) (hx : opv l x = some (.pointer (some ⟨b, o, none⟩))) (hy : opv l y = some v) (h1 : v.oneCell' = true)
    (hi : m[i]? = some (.blk b cs e)) (ho : o < cs.length) (hm : m.set i (.blk b (cs.set o v) e) = m') : Sv C l m ⟨d, .store t x y, ty, pos, af, g⟩ m' := fun ev hev w hw => by
  have hlt : i < m.length := (List.getElem?_eq_some_iff.1 hi).1
  have hi' : (m ++ C.m0)[i]? = some (.blk b cs e) := by rw [List.getElem?_append_left hlt]; exact hi
  have h := hw.all i _ hi'
  have hcell : w.cell? ⟨b, o, none⟩ = some cs[o] := by rw [cell_of_row w b o cs.toArray e (0, 0) h.2]; simp [ho]
  have hfro := frozen_of_row w b o cs.toArray e h.2
  have hset := setCell_eq_setRow w b o cs.toArray e (0, 0) v h.2
  have hcells : v.cells = #[v] := by cases v <;> simp_all [Value.cells, Value.oneCell']
  cases hq : C.P.info? t with
  | none => simp [hq] at hz
  | some inf =>
    have hs : inf.size = 1 := by simpa [hq] using hz
    refine ⟨w.setRow b (cs.toArray.setIfInBounds o v), ?_, ?_⟩
    · have hst : (store ⟨b, o, none⟩ v).run C.P w = .ok () (w.setRow b (cs.toArray.setIfInBounds o v)) := by
        rw [run_store C.P w ⟨b, o, none⟩ v _ h1]
        simp [stored, hcell, hfro, hset]
      simp [execOp, hev x _ hx, hev y _ hy, Instr.storeAt, Instr.sureAddr, storeVar, sizeOf, typeInfo, hq, hs, hcells, storeCells, Addr.add_zero', hst]
    · rw [← hm, ← List.set_append_left _ _ hlt]
      refine hw.upd hi' (grownBy_setRow _) ⟨h.1, ?_⟩ (fun k hk => .inl hk)
      have := setRow_heap w b cs.toArray (cs.toArray.setIfInBounds o v) e (0, 0) h.2
      simpa using this

/-- A store of a whole struct or array. -/
theorem Sv.store_all {x y : Operand} {t : TypeId} {b i : Nat} {cs us : List Value} {e : TypeId} {m' : List Res} (hz : (C.P.info? t).map (·.size) = some us.length) (hx : opv l x = some (.pointer (some ⟨b, 0, none⟩))) (hy : opv l y = some (.agg us.toArray)) (h1 : us.all (·.oneCell') = true)
    (hi : m[i]? = some (.blk b cs e)) (hl : cs.length = us.length) (hm : m.set i (.blk b us e) = m') : Sv C l m ⟨d, .store t x y, ty, pos, af, g⟩ m' := fun ev hev w hw => by
  have hlt : i < m.length := (List.getElem?_eq_some_iff.1 hi).1
  have hi' : (m ++ C.m0)[i]? = some (.blk b cs e) := by rw [List.getElem?_append_left hlt]; exact hi
  have h := hw.all i _ hi'
  have hr := run_storeVar_row (P := C.P) w b t e cs.toArray us.toArray h.2 (by simpa using hl) (by simpa using hz) (by simpa using h1)
  refine ⟨w.setRow b us.toArray, ?_, ?_⟩
  · simp [execOp, hev x _ hx, hev y _ hy, Instr.storeAt, Instr.sureAddr, hr]
  · rw [← hm, ← List.set_append_left _ _ hlt]
    exact hw.upd hi' (grownBy_setRow _) ⟨h.1, setRow_heap w b cs.toArray us.toArray e (0, 0) h.2⟩ (fun k hk => .inl hk)

/-- append(s, x...): s a slice of the call's own, x one that can be read. -/
theorem Ev.append {s x : Operand} {t e : TypeId} {inf : TypeInfo} {z : Value} {A B : Option Addr} {c c' n k i by_ : Nat} {xs ys : List Value}
    (ht : C.P.underlying t = some (.slice e)) (hi : C.P.info? e = some inf) (hz : inf.zero = some z) (hsz : inf.size = 1) (hby : inf.bytes = by_) (hzs : z.cells.size = 1)
    (hs : opv l s = some (.slice A n c)) (hx : opv l x = some (.slice B k c')) (hm : m[i]? = some (.own A c n xs e 1)) (hr : Rd C.w0 (m ++ C.m0) B ys) (hk : ys.length = k) (h1 : ys.all (·.oneCell') = true)
    (h63 : n + k ≤ maxLen) (hbb : (n + k) * by_ ≤ 140737488355328) :
    Ev (α := Option Addr × Nat) C l m ⟨d, .call { callee := .builtin .append, args := #[s, x], argTypes := #[t, t] }, ty, pos, af, g⟩ (fun p => p = (none, 0) ↔ (n = 0 ∧ k = 0 ∧ A = none)) (fun p => .slice p.1 (n + k) p.2) (fun p => m.set i (.own p.1 p.2 (n + k) (xs ++ ys) e 1)) := fun ev hev w hw => by
  have hlt : i < m.length := (List.getElem?_eq_some_iff.1 hm).1
  have hm' : (m ++ C.m0)[i]? = some (.own A c n xs e 1) := by rw [List.getElem?_append_left hlt]; exact hm
  have hown : w.ownsRow C.w0.heap.size e 1 (.slice A n c) n xs := hw.all i _ hm'
  have hA : A = none → n = 0 ∧ c = 0 := by
    rintro rfl
    rcases hown.2 with ⟨h1, h2⟩ | ⟨g, cap, cur, h1, _⟩
    · injection h1 with _ _ h3
      exact ⟨h2, h3⟩
    · simp at h1
  cases B with
  | none =>
    have hy : ys = [] := by
      cases hys : ys with
      | nil => rfl
      | cons y r =>
        obtain ⟨a, ha, _⟩ := hr w hw 0 y (by simp [hys])
        simp at ha
    subst hy
    have hk0 : k = 0 := by simpa using hk.symm
    subst hk0
    refine ⟨(A, c), w, ?_, ?_, ?_⟩
    · constructor
      · intro h
        obtain ⟨h1, h2⟩ := Prod.mk.inj h
        have h3 := hA h1
        exact ⟨h3.1, rfl, h1⟩
      · rintro ⟨h1, _, h2⟩
        rw [h2, (hA h2).2]
    · have hrun : (Builtin.append_ #[t, t] ty #[.slice A n c, .slice none 0 c']).run C.P w = .ok (.slice A n c) w := by
        rcases hown.2 with ⟨hv, rfl⟩ | ⟨g, cap, cur, hv, _, _, hnc, _⟩
        · injection hv with h1 h2 h3
          subst h1 h3
          simp [Builtin.append_, run_underlying ht, sizeOf, typeInfo, hi, Builtin.lenOf, Builtin.firstCells]
        · injection hv with h1 h2 h3
          subst h1 h3
          simp [Builtin.append_, run_underlying ht, sizeOf, typeInfo, hi, Builtin.lenOf, Builtin.firstCells, hnc, storeCells]
      simp [execOp, resolve, invoke, builtin, hev s _ hs, hev x _ hx, hrun]
    · rw [← List.set_append_left _ _ hlt]
      refine hw.upd hm' ⟨rfl, rfl, rfl, Nat.le_refl _, fun _ _ _ => rfl⟩ ?_ (fun g hg => .inl hg)
      simpa [Res.at] using hown
  | some a =>
    have hnews : ∀ j u, ys[j]? = some u → w.cell? (a.add j) = some u := fun j u hu => by
      obtain ⟨a', ha, hc⟩ := hr w hw j u hu
      cases ha
      exact hc
    obtain ⟨v', w', hrun, h2, h3, h4, h5⟩ := run_append_own_at (P := C.P) w C.w0.heap.size t ty e inf z 1 by_ ht hi hz hsz hby hzs (by decide) (.slice A n c) n xs hown a k c' ys (by simpa using hk) hnews (by simpa using h1) h63 hbb hw.bnd
    have hform : ∃ p : Option Addr × Nat, v' = .slice p.1 (n + k) p.2 := by
      rcases h2.2 with ⟨h, h'⟩ | ⟨g, cap, cur, h, _⟩
      · exact ⟨(none, 0), by rw [h, h']⟩
      · exact ⟨(some ⟨g, 0, none⟩, cap), h⟩
    obtain ⟨p, rfl⟩ := hform
    have hblk : ∀ (q : Option Addr) (u c : Nat), Value.ownBlock (.slice q u c) = q.map (·.block) := by intro q u c; cases q <;> rfl
    refine ⟨p, w', ?_, ?_, ?_⟩
    · constructor
      · intro h
        subst h
        have hnk : n + k = 0 := by
          rcases h2.2 with ⟨_, h'⟩ | ⟨g, cap, cur, h, _⟩
          · exact h'
          · simp at h
        have hv : Value.slice none (n + k) 0 = .slice none 0 0 := by rw [hnk]
        have := (h4.1 hv).1
        injection this with q1 q2 q3
        exact ⟨by omega, by omega, q1⟩
      · rintro ⟨rfl, rfl, rfl⟩
        have hc := (hA rfl).2
        subst hc
        have := h4.2 ⟨rfl, rfl⟩
        injection this with q1 q2 q3
        exact Prod.ext q1 q3
    · simp [execOp, resolve, invoke, builtin, hev s _ hs, hev x _ hx, hrun]
    · rw [← List.set_append_left _ _ hlt]
      refine hw.upd hm' (by rw [hblk] at h3; exact h3) h2 ?_
      intro g hg
      rw [hblk, hblk] at h5
      have hg' : p.1.map (·.block) = some g := hg
      rcases h5 with h5 | h5
      · left; show A.map (·.block) = some g; rw [← h5]; exact hg'
      · right
        rw [h5] at hg'
        have := Option.some.inj hg'
        omega
end e
end


/-- The function has a text of its own. -/
def Ent (P : Program) (f : FuncId) : Prop := ∃ fn, P.funcs[f]? = some fn ∧ (fn.name == "runtime.NumGoroutine") = false ∧ fn.body.isNone = false

/-- What a call comes to: some x makes out its value and the memory behind it. -/
def sp {α : Type} (w0 : World) (m0 : List Res) (φ : α → Prop) (val : α → Value) (M : α → List Res) : Ending → World → Prop := fun e w' => ∃ x, φ x ∧ e = .returned (val x) ∧ Mem w0 (M x ++ m0) w'

/-- THE CONTRACT: 'm' is what the call may turn, 'm0' all else. -/
def Ct {α : Type} (P : Program) (f : FuncId) (args : List Value) (w0 : World) (m m0 : List Res) (φ : α → Prop) (val : α → Value) (M : α → List Res) : Prop :=
  Ent P f ∧ ∀ w, Mem w0 (m ++ m0) w → Calls P f args.toArray w (sp w0 m0 φ val M)

/-- One that turns nothing and makes nothing that is told. -/
abbrev PureC (P : Program) (f : FuncId) (args : List Value) (w0 : World) (m0 : List Res) (v : Value) : Prop := Ct (α := Unit) P f args w0 [] m0 (fun _ => True) (fun _ => v) (fun _ => [])

def slotsOf : Nat → List Value → List (Nat × Value)
  | _, [] => []
  | i, v :: r => (i, v) :: slotsOf (i + 1) r

theorem lk_slotsOf : ∀ (vs : List Value) (i s : Nat) (v : Value), lk s (slotsOf i vs) = some v → i ≤ s ∧ vs[s - i]? = some v
  | [], i, s, v, h => by simp [slotsOf, lk] at h
  | u :: r, i, s, v, h => by
    simp only [slotsOf, lk] at h
    cases hb : Nat.beq s i with
    | true =>
      have e := Nat.eq_of_beq_eq_true hb
      subst e
      rw [hb] at h
      simp only [cond_true, Option.some.injEq] at h
      subst h
      simp
    | false =>
      rw [hb] at h
      obtain ⟨h1, h2⟩ := lk_slotsOf r (i + 1) s v h
      refine ⟨by omega, ?_⟩
      rw [show s - i = (s - (i + 1)) + 1 by omega]
      simpa using h2

theorem fw_none : FW none = Fence.wide := rfl

section
variable {α : Type} {P : Program} {f : FuncId} {w0 : World} {m m0 : List Res} {φ : α → Prop} {val : α → Value} {M : α → List Res}

theorem Ct.of {fn : Func} {c : Code} {args : List Value} (hf : P.funcs[f]? = some fn) (hb : fn.body = some c) (hname : (fn.name == "runtime.NumGoroutine") = false) (hn : Nat.ble args.length fn.ntmps = true)
    (h : WC ⟨none, P, fn.ntmps, [], w0, m0⟩ (bodyPost P fn (sp w0 m0 φ val M)) c (slotsOf 0 args) m) : Ct P f args w0 m m0 φ val M := by
  refine ⟨⟨fn, hf, hname, by rw [hb]; rfl⟩, fun w hw => ?_⟩
  have hn' : args.length ≤ fn.ntmps := by simpa using hn
  refine calls_of_wp hf hb (wpIn_wide.1 (h _ w ⟨⟨rfl, ?_, ?_⟩, hw⟩))
  · simp; omega
  · intro s v hv
    obtain ⟨_, h2⟩ := lk_slotsOf args 0 s v hv
    have hlt := (List.getElem?_eq_some_iff.1 h2).1
    simp only [Nat.sub_zero] at h2 hlt
    rw [Array.getD_eq_getD_getElem?, Array.getElem?_append_left (by simpa using hlt)]
    simp [h2]

theorem Ct.mono {args : List Value} {β : Type} {φ' : β → Prop} {val' : β → Value} {M' : β → List Res} (h : Ct P f args w0 m m0 φ val M)
    (hx : ∀ x, φ x → ∃ y, φ' y ∧ val x = val' y ∧ ∀ w, Mem w0 (M x ++ m0) w → Mem w0 (M' y ++ m0) w) : Ct P f args w0 m m0 φ' val' M' :=
  ⟨h.1, fun w hw => (h.2 w hw).mono fun e w' ⟨x, h1, h2, h3⟩ => let ⟨y, k1, k2, k3⟩ := hx x h1; ⟨y, k1, by rw [h2, k2], k3 w' h3⟩⟩
end

section
variable {C : Cx} {Q : Po} {l : List (Nat × Value)} {m : List Res} {ops : Array Oper} {rest : List Oper}

theorem run_call {P : Program} {f : FuncId} (hE : Ent P f) {ev : Operand → Value} {d : Option Nat} {ty : TypeId} {pos : String} {af : Array Edge} {g : Option (Nat × Bool)} {fo : Operand} {xs : List Operand} {ts : Array TypeId} {vs : List Value} {cs : List Value}
    (hfo : ev fo = .func (.func f) #[] cs.toArray) (hxs : xs.map ev = vs) (w : World) :
    (execOp ev ⟨d, .call { callee := .value fo, args := xs.toArray, argTypes := ts }, ty, pos, af, g⟩).run P w = .ok (.enter f (vs ++ cs).toArray) w := by
  obtain ⟨fn, hf, hn, hb⟩ := hE
  have hn' : fn.name ≠ "runtime.NumGoroutine" := by simpa using hn
  have hb' : fn.body ≠ none := by intro e; simp [e] at hb
  simp [execOp, resolve, hfo, Deferred.ofValue, invoke, callFunc, hf, hn', hb', hxs]

theorem WX.call {α : Type} {φ : α → Prop} {val : α → Value} {M : α → List Res} {d : Nat} {ty : TypeId} {pos : String} {af : Array Edge} {g : Option (Nat × Bool)} {fo : Operand} {xs : List Operand} {ts : Array TypeId} {f : FuncId} {vs cs : List Value} {m1 m2 : List Res}
    (hfo : opv l fo = some (.func (.func f) #[] cs.toArray)) (hxs : opvs l xs = some vs) (hm : m = m1 ++ m2) (hsp : Ct C.P f (vs ++ cs) C.w0 m1 (m2 ++ C.m0) φ val M) (hdn : Nat.blt d C.n = true) (hg : wants ops l g = some true)
    (k : ∀ x, φ x → WX false C Q ops rest ((d, val x) :: l) (M x ++ m2)) : WX false C Q ops (⟨some d, .call { callee := .value fo, args := xs.toArray, argTypes := ts }, ty, pos, af, g⟩ :: rest) l m := by
  intro a w hs
  refine wpListIn_wanted (wanted_of hs.1 hg) rfl ?_
  rw [run_call hsp.1 (hs.1.eval hfo) (opvs_map (ev_of hs.1) xs vs hxs) w]
  rw [Oper.uponIn_enter]
  refine ⟨fun h => by simp [FW] at h, ?_⟩
  have hc : CallsIn Fence.wide (0 - 1) C.P f (vs ++ cs).toArray w (sp C.w0 (m2 ++ C.m0) φ val M) := callsIn_wide.2 (hsp.2 w (by rw [← List.append_assoc, ← hm]; exact hs.2))
  refine ⟨trivial, fun css hroom => ?_⟩
  obtain ⟨e, w', fr, hR, hcome, hfn, hleave⟩ := hc.2 css (room_wide _)
  refine ⟨e, w', fr, ?_, hcome, hfn, hleave⟩
  obtain ⟨x, hx, rfl, hmem⟩ := hR
  refine k x hx _ _ ⟨hs.1.put d _ hdn, ?_⟩
  rw [List.append_assoc]
  exact hmem

/-- A call that turns nothing: in a region that draws its order, too. -/
theorem WX.pure {b : Bool} {v : Value} {d : Nat} {ty : TypeId} {pos : String} {af : Array Edge} {g : Option (Nat × Bool)} {fo : Operand} {xs : List Operand} {ts : Array TypeId} {f : FuncId} {vs cs : List Value}
    (hfo : opv l fo = some (.func (.func f) #[] cs.toArray)) (hxs : opvs l xs = some vs) (hsp : PureC C.P f (vs ++ cs) C.w0 (m ++ C.m0) v) (hdn : Nat.blt d C.n = true) (hg : wants ops l g = some true)
    (k : WX b C Q ops rest ((d, v) :: l) m) : WX b C Q ops (⟨some d, .call { callee := .value fo, args := xs.toArray, argTypes := ts }, ty, pos, af, g⟩ :: rest) l m := by
  cases b
  · exact WX.call (m1 := []) (m2 := m) hfo hxs rfl hsp hdn hg (fun _ _ => k)
  · intro a hs
    refine ⟨fun w hw f hf => trivial, ?_⟩
    rw [if_pos (wanted_of hs hg)]
    refine ⟨v, fun w hw => ?_, k _ (hs.put d v hdn)⟩
    unfold Oper.quietAtIn
    rw [run_call hsp.1 (hs.eval hfo) (opvs_map (ev_of hs) xs vs hxs) w]
    refine ⟨rfl, fun h => by simp [FW] at h, ?_⟩
    have hc : CallsIn Fence.wide (0 - 1) C.P f (vs ++ cs).toArray w (sp C.w0 (m ++ C.m0) (fun _ : Unit => True) (fun _ => v) (fun _ => [])) := callsIn_wide.2 (hsp.2 w hw)
    refine ⟨trivial, fun css hroom => ?_⟩
    obtain ⟨e, w', fr, hR, hcome, hfn, hleave⟩ := hc.2 css (room_wide _)
    refine ⟨e, w', fr, ?_, hcome, hfn, hleave⟩
    obtain ⟨x, hx, rfl, hmem⟩ := hR
    exact ⟨rfl, hmem⟩

/-! ### The way back -/
section
variable {α : Type} {fn : Func} {φ : α → Prop} {val : α → Value} {M : α → List Res}

theorem WE.ret0 (x : α) (hres : fn.results = #[]) (hD : C.D = []) (hv : val x = .tuple #[]) (hφ : φ x) (hM : ∀ w, Mem C.w0 (m ++ C.m0) w → Mem C.w0 (M x ++ C.m0) w) :
    WE C (bodyPost C.P fn (sp C.w0 C.m0 φ val M)) .ret l m := fun a w hs =>
  ⟨by rw [hs.1.d, hD], .tuple #[], results_none hres _ _ _, x, hφ, by rw [hv], hM w hs.2⟩
theorem WE.end0 (x : α) (hres : fn.results = #[]) (hD : C.D = []) (hv : val x = .tuple #[]) (hφ : φ x) (hM : ∀ w, Mem C.w0 (m ++ C.m0) w → Mem C.w0 (M x ++ C.m0) w) :
    WE C (bodyPost C.P fn (sp C.w0 C.m0 φ val M)) .normal l m := fun a w hs =>
  ⟨by rw [hs.1.d, hD], .tuple #[], results_none hres _ _ _, x, hφ, by rw [hv], hM w hs.2⟩
theorem WE.ret1 {t : Nat} (x : α) (hres : fn.results = #[.tmp t]) (hD : C.D = []) (hv : lk t l = some (val x)) (hφ : φ x) (hM : ∀ w, Mem C.w0 (m ++ C.m0) w → Mem C.w0 (M x ++ C.m0) w) :
    WE C (bodyPost C.P fn (sp C.w0 C.m0 φ val M)) .ret l m := fun a w hs =>
  ⟨by rw [hs.1.d, hD], val x, by rw [results_tmp hres, hs.1.at_ t _ hv], x, hφ, rfl, hM w hs.2⟩
theorem WE.ret2 {t u : Nat} {v1 v2 : Value} (x : α) (hres : fn.results = #[.tmp t, .tmp u]) (hD : C.D = []) (h1 : lk t l = some v1) (h2 : lk u l = some v2) (hv : val x = .tuple #[v1, v2]) (hφ : φ x) (hM : ∀ w, Mem C.w0 (m ++ C.m0) w → Mem C.w0 (M x ++ C.m0) w) :
    WE C (bodyPost C.P fn (sp C.w0 C.m0 φ val M)) .ret l m := fun a w hs =>
  ⟨by rw [hs.1.d, hD], val x, by rw [results_tmp2 hres, hs.1.at_ t _ h1, hs.1.at_ u _ h2, hv], x, hφ, rfl, hM w hs.2⟩
theorem WE.ret3 {t u s : Nat} {v1 v2 v3 : Value} (x : α) (hres : fn.results = #[.tmp t, .tmp u, .tmp s]) (hD : C.D = []) (h1 : lk t l = some v1) (h2 : lk u l = some v2) (h3 : lk s l = some v3) (hv : val x = .tuple #[v1, v2, v3]) (hφ : φ x) (hM : ∀ w, Mem C.w0 (m ++ C.m0) w → Mem C.w0 (M x ++ C.m0) w) :
    WE C (bodyPost C.P fn (sp C.w0 C.m0 φ val M)) .ret l m := fun a w hs => by
  refine ⟨by rw [hs.1.d, hD], val x, ?_, x, hφ, rfl, hM w hs.2⟩
  have e1 := hs.1.at_ t _ h1
  have e2 := hs.1.at_ u _ h2
  have e3 := hs.1.at_ s _ h3
  simp only [Array.getD_eq_getD_getElem?] at e1 e2 e3
  simp [results, hres, e1, e2, e3, hv]
/-- One result that lies in a block of its own: a struct or an array. -/
theorem WE.retc {p i : Nat} {t e : TypeId} {dd : TypeDesc} {b : Nat} {cs : List Value} (x : α) (hres : fn.results = #[.cell p t]) (hD : C.D = []) (ht : C.P.underlying t = some dd) (h1 : oneTy dd = false) (hz : (C.P.info? t).map (·.size) = some cs.length)
    (hp : lk p l = some (.pointer (some ⟨b, 0, none⟩))) (hi : m[i]? = some (.blk b cs e)) (hv : val x = .agg cs.toArray) (hφ : φ x) (hM : ∀ w, Mem C.w0 (m ++ C.m0) w → Mem C.w0 (M x ++ C.m0) w) :
    WE C (bodyPost C.P fn (sp C.w0 C.m0 φ val M)) .ret l m := fun a w hs => by
  have h := (Mem.appL hs.2).all i _ hi
  refine ⟨by rw [hs.1.d, hD], val x, ?_, x, hφ, rfl, hM w hs.2⟩
  rw [hv]
  exact results_cell_row hres _ w b e cs.toArray (0, 0) dd (hs.1.at_ p _ hp) h.2 ht (by cases dd <;> simp_all [oneTy]) (by simpa using hz)
/-- A struct or an array, and a second result beside it. -/
theorem WE.retc2 {p u i : Nat} {t e : TypeId} {dd : TypeDesc} {b : Nat} {cs : List Value} {v2 : Value} (x : α) (hres : fn.results = #[.cell p t, .tmp u]) (hD : C.D = []) (ht : C.P.underlying t = some dd) (h1 : oneTy dd = false) (hz : (C.P.info? t).map (·.size) = some cs.length)
    (hp : lk p l = some (.pointer (some ⟨b, 0, none⟩))) (hi : m[i]? = some (.blk b cs e)) (h2 : lk u l = some v2) (hv : val x = .tuple #[.agg cs.toArray, v2]) (hφ : φ x) (hM : ∀ w, Mem C.w0 (m ++ C.m0) w → Mem C.w0 (M x ++ C.m0) w) :
    WE C (bodyPost C.P fn (sp C.w0 C.m0 φ val M)) .ret l m := fun a w hs => by
  have h := (Mem.appL hs.2).all i _ hi
  have hr := run_loadVar_row (P := C.P) w b e t cs.toArray (0, 0) dd h.2 ht (by cases dd <;> simp_all [oneTy]) (by simpa using hz)
  refine ⟨by rw [hs.1.d, hD], val x, ?_, x, hφ, rfl, hM w hs.2⟩
  have e1 := hs.1.at_ p _ hp
  have e2 := hs.1.at_ u _ h2
  simp only [Array.getD_eq_getD_getElem?] at e1 e2
  simp [results, hres, e1, e2, hv, asAddr, hr]
end
end

/-! ### Small words for the walks -/
theorem Mem.keep {w0 : World} {m m0 : List Res} : ∀ w, Mem w0 (m ++ m0) w → Mem w0 (m ++ m0) w := fun _ h => h
theorem Mem.drop {w0 : World} {m m0 : List Res} : ∀ w, Mem w0 (m ++ m0) w → Mem w0 ([] ++ m0) w := fun _ h => Mem.appR h
theorem Mem.pick {w0 : World} {m m0 m' : List Res} (is : List Nat) (hnd : is.Nodup) (hm : is.map (m[·]?) = m'.map some) : ∀ w, Mem w0 (m ++ m0) w → Mem w0 (m' ++ m0) w := fun _ h => h.sel is hnd hm

theorem Mem.addNil {w0 : World} {m m0 : List Res} (e : TypeId) (sz : Nat) : ∀ w, Mem w0 (m ++ m0) w → Mem w0 ((.own none 0 0 [] e sz :: m) ++ m0) w := fun w h =>
  h.add ⟨rfl, rfl, rfl, Nat.le_refl _, fun _ _ _ => rfl⟩ (World.ownsRow_nil w _ e sz) (fun g hg => by simp [Res.block] at hg)
theorem Mem.nilOwn {w0 : World} {m m0 : List Res} (e : TypeId) (sz : Nat) : ∀ w, Mem w0 (m ++ m0) w → Mem w0 ([.own none 0 0 [] e sz] ++ m0) w := fun w h => Mem.addNil (m := []) e sz w (Mem.drop w h)

theorem wadd64 {a b : Int} (h : -9223372036854775808 ≤ a + b ∧ a + b ≤ 9223372036854775807) : IntKind.i64.wrap (a + b) = a + b := IntWalk.i64_in _ h
theorem wsub64 {a b : Int} (h : -9223372036854775808 ≤ a - b ∧ a - b ≤ 9223372036854775807) : IntKind.i64.wrap (a - b) = a - b := IntWalk.i64_in _ h
theorem wmul64 {a b : Int} (h : -9223372036854775808 ≤ a * b ∧ a * b ≤ 9223372036854775807) : IntKind.i64.wrap (a * b) = a * b := IntWalk.i64_in _ h
theorem wadd32 {a b : Int} (h : -2147483648 ≤ a + b ∧ a + b ≤ 2147483647) : IntKind.i32.wrap (a + b) = a + b := IntWalk.i32_in _ h
theorem wsub32 {a b : Int} (h : -2147483648 ≤ a - b ∧ a - b ≤ 2147483647) : IntKind.i32.wrap (a - b) = a - b := IntWalk.i32_in _ h


def okk (ops : Array Oper) (l : List (Nat × Value)) (g : Option (Nat × Bool)) (d n : Nat) : Bool := Nat.blt d n && (match wants ops l g with | some true => true | _ => false)
theorem okk_1 {ops : Array Oper} {l : List (Nat × Value)} {g : Option (Nat × Bool)} {d n : Nat} (h : okk ops l g d n = true) : Nat.blt d n = true := by simp only [okk, Bool.and_eq_true] at h; exact h.1
theorem okk_2 {ops : Array Oper} {l : List (Nat × Value)} {g : Option (Nat × Bool)} {d n : Nat} (h : okk ops l g d n = true) : wants ops l g = some true := by
  simp only [okk, Bool.and_eq_true] at h
  have h2 := h.2
  split at h2
  · assumption
  · cases h2

section
variable {C : Cx} {Q : Po} {l : List (Nat × Value)} {m : List Res} {ops : Array Oper} {rest : List Oper} {b : Bool} {d : Nat} {ty : TypeId} {pos : String} {af : Array Edge} {g : Option (Nat × Bool)} {t t' : TypeId} {x y z : Operand} {k : IntKind} {p q r : Int} {v u : Value}

theorem r_mv (hx : opv l x = some v) (h : okk ops l g d C.n = true) (c : WX b C Q ops rest ((d, v) :: l) m) : WX b C Q ops (⟨some d, .move x, ty, pos, af, g⟩ :: rest) l m := WX.q (Qv.move hx) rfl (okk_1 h) (okk_2 h) rfl c
theorem r_as (hx : opv l x = some v) (h : okk ops l g d C.n = true) (c : WX b C Q ops rest ((d, v) :: l) m) : WX b C Q ops (⟨some d, .assign x, ty, pos, af, g⟩ :: rest) l m := WX.q (Qv.assign hx) rfl (okk_1 h) (okk_2 h) rfl c
theorem r_sk {o : Op} (hg : wants ops l g = some false) (hd : Nat.blt d C.n = true) (c : WX b C Q ops rest ((d, undef) :: l) m) : WX b C Q ops (⟨some d, o, ty, pos, af, g⟩ :: rest) l m := WX.skip rfl hd hg c
theorem r_pT (hx : opv l x = some (.bool true)) (hy : opv l y = some v) (h : okk ops l g d C.n = true) (c : WX b C Q ops rest ((d, v) :: l) m) : WX b C Q ops (⟨some d, .pick x y z, ty, pos, af, g⟩ :: rest) l m := WX.q (Qv.pick_t hx hy) rfl (okk_1 h) (okk_2 h) rfl c
theorem r_pF (hx : opv l x = some (.bool false)) (hy : opv l z = some v) (h : okk ops l g d C.n = true) (c : WX b C Q ops rest ((d, v) :: l) m) : WX b C Q ops (⟨some d, .pick x y z, ty, pos, af, g⟩ :: rest) l m := WX.q (Qv.pick_f hx hy) rfl (okk_1 h) (okk_2 h) rfl c
theorem r_ex {i : Nat} {vs : List Value} (hx : opv l x = some (.tuple vs.toArray)) (hi : vs[i]? = some v) (h : okk ops l g d C.n = true) (c : WX b C Q ops rest ((d, v) :: l) m) : WX b C Q ops (⟨some d, .extract x i, ty, pos, af, g⟩ :: rest) l m := WX.q (Qv.extract hx (by simpa using hi)) rfl (okk_1 h) (okk_2 h) rfl c
theorem r_no {e e' : Bool} (hx : opv l x = some (.bool e)) (hv : (!e) = e') (h : okk ops l g d C.n = true) (c : WX b C Q ops rest ((d, .bool e') :: l) m) : WX b C Q ops (⟨some d, .unOp .not t x, ty, pos, af, g⟩ :: rest) l m := by subst hv; exact WX.q (Qv.not_ hx) rfl (okk_1 h) (okk_2 h) rfl c
theorem r_nc {a : Addr} (hx : opv l x = some (.pointer (some a))) (h : okk ops l g d C.n = true) (c : WX b C Q ops rest ((d, .pointer (some a)) :: l) m) : WX b C Q ops (⟨some d, .nilCheck x, ty, pos, af, g⟩ :: rest) l m := WX.q (Qv.nilCheck hx) rfl (okk_1 h) (okk_2 h) rfl c

theorem r_ltT (hx : opv l x = some (.int k p)) (hy : opv l y = some (.int k q)) (h : okk ops l g d C.n = true) (hc : p < q) (c : WX b C Q ops rest ((d, .bool true) :: l) m) : WX b C Q ops (⟨some d, .binOp .lss t x y t', ty, pos, af, g⟩ :: rest) l m := WX.q (Qv.lss_t hx hy hc) rfl (okk_1 h) (okk_2 h) rfl c
theorem r_ltF (hx : opv l x = some (.int k p)) (hy : opv l y = some (.int k q)) (h : okk ops l g d C.n = true) (hc : ¬ p < q) (c : WX b C Q ops rest ((d, .bool false) :: l) m) : WX b C Q ops (⟨some d, .binOp .lss t x y t', ty, pos, af, g⟩ :: rest) l m := WX.q (Qv.lss_f hx hy hc) rfl (okk_1 h) (okk_2 h) rfl c
theorem r_leT (hx : opv l x = some (.int k p)) (hy : opv l y = some (.int k q)) (h : okk ops l g d C.n = true) (hc : p ≤ q) (c : WX b C Q ops rest ((d, .bool true) :: l) m) : WX b C Q ops (⟨some d, .binOp .leq t x y t', ty, pos, af, g⟩ :: rest) l m := WX.q (Qv.leq_t hx hy hc) rfl (okk_1 h) (okk_2 h) rfl c
theorem r_leF (hx : opv l x = some (.int k p)) (hy : opv l y = some (.int k q)) (h : okk ops l g d C.n = true) (hc : ¬ p ≤ q) (c : WX b C Q ops rest ((d, .bool false) :: l) m) : WX b C Q ops (⟨some d, .binOp .leq t x y t', ty, pos, af, g⟩ :: rest) l m := WX.q (Qv.leq_f hx hy hc) rfl (okk_1 h) (okk_2 h) rfl c
theorem r_gtT (hx : opv l x = some (.int k p)) (hy : opv l y = some (.int k q)) (h : okk ops l g d C.n = true) (hc : p > q) (c : WX b C Q ops rest ((d, .bool true) :: l) m) : WX b C Q ops (⟨some d, .binOp .gtr t x y t', ty, pos, af, g⟩ :: rest) l m := WX.q (Qv.gtr_t hx hy hc) rfl (okk_1 h) (okk_2 h) rfl c
theorem r_gtF (hx : opv l x = some (.int k p)) (hy : opv l y = some (.int k q)) (h : okk ops l g d C.n = true) (hc : ¬ p > q) (c : WX b C Q ops rest ((d, .bool false) :: l) m) : WX b C Q ops (⟨some d, .binOp .gtr t x y t', ty, pos, af, g⟩ :: rest) l m := WX.q (Qv.gtr_f hx hy hc) rfl (okk_1 h) (okk_2 h) rfl c
theorem r_geT (hx : opv l x = some (.int k p)) (hy : opv l y = some (.int k q)) (h : okk ops l g d C.n = true) (hc : p ≥ q) (c : WX b C Q ops rest ((d, .bool true) :: l) m) : WX b C Q ops (⟨some d, .binOp .geq t x y t', ty, pos, af, g⟩ :: rest) l m := WX.q (Qv.geq_t hx hy hc) rfl (okk_1 h) (okk_2 h) rfl c
theorem r_geF (hx : opv l x = some (.int k p)) (hy : opv l y = some (.int k q)) (h : okk ops l g d C.n = true) (hc : ¬ p ≥ q) (c : WX b C Q ops rest ((d, .bool false) :: l) m) : WX b C Q ops (⟨some d, .binOp .geq t x y t', ty, pos, af, g⟩ :: rest) l m := WX.q (Qv.geq_f hx hy hc) rfl (okk_1 h) (okk_2 h) rfl c
theorem r_eqT (hx : opv l x = some (.int k p)) (hy : opv l y = some (.int k q)) (h : okk ops l g d C.n = true) (hc : p = q) (c : WX b C Q ops rest ((d, .bool true) :: l) m) : WX b C Q ops (⟨some d, .binOp .eql t x y t', ty, pos, af, g⟩ :: rest) l m := WX.q (Qv.eql_t hx hy hc) rfl (okk_1 h) (okk_2 h) rfl c
theorem r_eqF (hx : opv l x = some (.int k p)) (hy : opv l y = some (.int k q)) (h : okk ops l g d C.n = true) (hc : ¬ p = q) (c : WX b C Q ops rest ((d, .bool false) :: l) m) : WX b C Q ops (⟨some d, .binOp .eql t x y t', ty, pos, af, g⟩ :: rest) l m := WX.q (Qv.eql_f hx hy hc) rfl (okk_1 h) (okk_2 h) rfl c
theorem r_neT (hx : opv l x = some (.int k p)) (hy : opv l y = some (.int k q)) (h : okk ops l g d C.n = true) (hc : ¬ p = q) (c : WX b C Q ops rest ((d, .bool true) :: l) m) : WX b C Q ops (⟨some d, .binOp .neq t x y t', ty, pos, af, g⟩ :: rest) l m := WX.q (Qv.neq_t hx hy hc) rfl (okk_1 h) (okk_2 h) rfl c
theorem r_neF (hx : opv l x = some (.int k p)) (hy : opv l y = some (.int k q)) (h : okk ops l g d C.n = true) (hc : p = q) (c : WX b C Q ops rest ((d, .bool false) :: l) m) : WX b C Q ops (⟨some d, .binOp .neq t x y t', ty, pos, af, g⟩ :: rest) l m := WX.q (Qv.neq_f hx hy hc) rfl (okk_1 h) (okk_2 h) rfl c

theorem r_ltC (hx : opv l x = some (.int k p)) (hy : opv l y = some (.int k q)) (h : okk ops l g d C.n = true) (c1 : p < q → WX b C Q ops rest ((d, .bool true) :: l) m) (c2 : ¬ p < q → WX b C Q ops rest ((d, .bool false) :: l) m) : WX b C Q ops (⟨some d, .binOp .lss t x y t', ty, pos, af, g⟩ :: rest) l m := by
  by_cases hc : p < q
  · exact r_ltT hx hy h hc (c1 hc)
  · exact r_ltF hx hy h hc (c2 hc)
theorem r_leC (hx : opv l x = some (.int k p)) (hy : opv l y = some (.int k q)) (h : okk ops l g d C.n = true) (c1 : p ≤ q → WX b C Q ops rest ((d, .bool true) :: l) m) (c2 : ¬ p ≤ q → WX b C Q ops rest ((d, .bool false) :: l) m) : WX b C Q ops (⟨some d, .binOp .leq t x y t', ty, pos, af, g⟩ :: rest) l m := by
  by_cases hc : p ≤ q
  · exact r_leT hx hy h hc (c1 hc)
  · exact r_leF hx hy h hc (c2 hc)
theorem r_gtC (hx : opv l x = some (.int k p)) (hy : opv l y = some (.int k q)) (h : okk ops l g d C.n = true) (c1 : p > q → WX b C Q ops rest ((d, .bool true) :: l) m) (c2 : ¬ p > q → WX b C Q ops rest ((d, .bool false) :: l) m) : WX b C Q ops (⟨some d, .binOp .gtr t x y t', ty, pos, af, g⟩ :: rest) l m := by
  by_cases hc : p > q
  · exact r_gtT hx hy h hc (c1 hc)
  · exact r_gtF hx hy h hc (c2 hc)
theorem r_geC (hx : opv l x = some (.int k p)) (hy : opv l y = some (.int k q)) (h : okk ops l g d C.n = true) (c1 : p ≥ q → WX b C Q ops rest ((d, .bool true) :: l) m) (c2 : ¬ p ≥ q → WX b C Q ops rest ((d, .bool false) :: l) m) : WX b C Q ops (⟨some d, .binOp .geq t x y t', ty, pos, af, g⟩ :: rest) l m := by
  by_cases hc : p ≥ q
  · exact r_geT hx hy h hc (c1 hc)
  · exact r_geF hx hy h hc (c2 hc)
theorem r_eqC (hx : opv l x = some (.int k p)) (hy : opv l y = some (.int k q)) (h : okk ops l g d C.n = true) (c1 : p = q → WX b C Q ops rest ((d, .bool true) :: l) m) (c2 : ¬ p = q → WX b C Q ops rest ((d, .bool false) :: l) m) : WX b C Q ops (⟨some d, .binOp .eql t x y t', ty, pos, af, g⟩ :: rest) l m := by
  by_cases hc : p = q
  · exact r_eqT hx hy h hc (c1 hc)
  · exact r_eqF hx hy h hc (c2 hc)
theorem r_neC (hx : opv l x = some (.int k p)) (hy : opv l y = some (.int k q)) (h : okk ops l g d C.n = true) (c1 : ¬ p = q → WX b C Q ops rest ((d, .bool true) :: l) m) (c2 : p = q → WX b C Q ops rest ((d, .bool false) :: l) m) : WX b C Q ops (⟨some d, .binOp .neq t x y t', ty, pos, af, g⟩ :: rest) l m := by
  by_cases hc : p = q
  · exact r_neF hx hy h hc (c2 hc)
  · exact r_neT hx hy h hc (c1 hc)

theorem r_ad (hx : opv l x = some (.int k p)) (hy : opv l y = some (.int k q)) (h : okk ops l g d C.n = true) (hw : k.wrap (p + q) = r) (c : WX b C Q ops rest ((d, .int k r) :: l) m) : WX b C Q ops (⟨some d, .binOp .add t x y t', ty, pos, af, g⟩ :: rest) l m := WX.q (Qv.add hx hy hw) rfl (okk_1 h) (okk_2 h) rfl c
theorem r_su (hx : opv l x = some (.int k p)) (hy : opv l y = some (.int k q)) (h : okk ops l g d C.n = true) (hw : k.wrap (p - q) = r) (c : WX b C Q ops rest ((d, .int k r) :: l) m) : WX b C Q ops (⟨some d, .binOp .sub t x y t', ty, pos, af, g⟩ :: rest) l m := WX.q (Qv.sub hx hy hw) rfl (okk_1 h) (okk_2 h) rfl c
theorem r_mu (hx : opv l x = some (.int k p)) (hy : opv l y = some (.int k q)) (h : okk ops l g d C.n = true) (hw : k.wrap (p * q) = r) (c : WX b C Q ops rest ((d, .int k r) :: l) m) : WX b C Q ops (⟨some d, .binOp .mul t x y t', ty, pos, af, g⟩ :: rest) l m := WX.q (Qv.mul hx hy hw) rfl (okk_1 h) (okk_2 h) rfl c

theorem r_qu (hx : opv l x = some (.int k p)) (hy : opv l y = some (.int k q)) (h : okk ops l g d C.n = true) (hq : q ≠ 0) (hw : k.wrap (p.tdiv q) = r) (c : WX b C Q ops rest ((d, .int k r) :: l) m) : WX b C Q ops (⟨some d, .binOp .quo t x y t', ty, pos, af, g⟩ :: rest) l m :=
  WX.q (Qv.bin hx hy (fun _ _ => eqGuard_at_int ..) (fun w _ => by rw [binOp_quo, ← hw]; simp [Op.intDiv, hq])) rfl (okk_1 h) (okk_2 h) rfl c
theorem r_re (hx : opv l x = some (.int k p)) (hy : opv l y = some (.int k q)) (h : okk ops l g d C.n = true) (hq : q ≠ 0) (hw : p.tmod q = r) (c : WX b C Q ops rest ((d, .int k r) :: l) m) : WX b C Q ops (⟨some d, .binOp .rem t x y t', ty, pos, af, g⟩ :: rest) l m :=
  WX.q (Qv.bin hx hy (fun _ _ => eqGuard_at_int ..) (fun w _ => by rw [binOp_rem, ← hw]; simp [Op.intDiv, hq])) rfl (okk_1 h) (okk_2 h) rfl c
theorem wquo64 {p q : Int} (h : 0 ≤ p ∧ p ≤ 9223372036854775807 ∧ 1 ≤ q) : IntKind.i64.wrap (p.tdiv q) = p / q := IntWalk.i64_quo p q h
theorem wquo32 {p q : Int} (h : 0 ≤ p ∧ p ≤ 2147483647 ∧ 1 ≤ q) : IntKind.i32.wrap (p.tdiv q) = p / q := IntWalk.i32_quo p q h
theorem wrem {p q : Int} (h : 0 ≤ p) : p.tmod q = p % q := IntWalk.rem_in p q h
theorem r_ls {e : TypeId} {A : Option Addr} {n c : Nat} (ht : C.P.underlying t = some (.slice e)) (hx : opv l x = some (.slice A n c)) (h : okk ops l g d C.n = true) (k : WX b C Q ops rest ((d, .int .i64 n) :: l) m) :
    WX b C Q ops (⟨some d, .call { callee := .builtin .len, args := #[x], argTypes := #[t] }, ty, pos, af, g⟩ :: rest) l m := WX.q (Qv.len_slice ht hx) rfl (okk_1 h) (okk_2 h) rfl k
theorem r_lS {s : ByteArray} (ht : C.P.underlying t = some .string) (hx : opv l x = some (.string s)) (h : okk ops l g d C.n = true) (k : WX b C Q ops rest ((d, .int .i64 s.size) :: l) m) :
    WX b C Q ops (⟨some d, .call { callee := .builtin .len, args := #[x], argTypes := #[t] }, ty, pos, af, g⟩ :: rest) l m := WX.q (Qv.len_string ht hx) rfl (okk_1 h) (okk_2 h) rfl k
theorem r_mi (hx : opv l x = some u) (hr : ∀ w, (Instr.makeInterface t u).run C.P w = .ok (.iface t u) w) (h : okk ops l g d C.n = true) (c : WX b C Q ops rest ((d, .iface t u) :: l) m) : WX b C Q ops (⟨some d, .makeInterface t x, ty, pos, af, g⟩ :: rest) l m := WX.q (Qv.makeInterface hx hr) rfl (okk_1 h) (okk_2 h) rfl c
theorem r_fn {f : Fn} {xs : List Operand} {vs : List Value} (hx : opvs l xs = some vs) (h : okk ops l g d C.n = true) (c : WX b C Q ops rest ((d, .func f #[] vs.toArray) :: l) m) : WX b C Q ops (⟨some d, .makeFunc f #[] xs.toArray, ty, pos, af, g⟩ :: rest) l m := WX.q (Qv.makeFunc hx) rfl (okk_1 h) (okk_2 h) rfl c
theorem r_fa (o' : Nat) {i bb o : Nat} (hx : opv l x = some (.pointer (some ⟨bb, o, none⟩))) (hr : ∀ w, (Instr.fieldAt t (.pointer (some ⟨bb, o, none⟩)) i).run C.P w = .ok (.pointer (some ⟨bb, o', none⟩)) w) (h : okk ops l g d C.n = true) (c : WX b C Q ops rest ((d, .pointer (some ⟨bb, o', none⟩)) :: l) m) : WX b C Q ops (⟨some d, .fieldAddr t x i, ty, pos, af, g⟩ :: rest) l m := WX.q (Qv.fieldAddr hx hr) rfl (okk_1 h) (okk_2 h) rfl c
theorem r_fi {i : Nat} (hx : opv l x = some u) (hr : ∀ w, (Instr.field t u i).run C.P w = .ok v w) (h : okk ops l g d C.n = true) (c : WX b C Q ops rest ((d, v) :: l) m) : WX b C Q ops (⟨some d, .field t x i, ty, pos, af, g⟩ :: rest) l m := WX.q (Qv.field hx hr) rfl (okk_1 h) (okk_2 h) rfl c
theorem r_f1 (o : Nat) {i : Nat} {cs : List Value} (hx : opv l x = some (.agg cs.toArray)) (hv : cs[o]? = some v) (hr : ∀ w, (Instr.field t (.agg cs.toArray) i).run C.P w = .ok v w) (h : okk ops l g d C.n = true) (c : WX b C Q ops rest ((d, v) :: l) m) : WX b C Q ops (⟨some d, .field t x i, ty, pos, af, g⟩ :: rest) l m := WX.q (Qv.field hx hr) rfl (okk_1 h) (okk_2 h) rfl c
theorem r_ix {i : Value} (hx : opv l x = some u) (hy : opv l y = some i) (hr : ∀ w, (Instr.index t u i).run C.P w = .ok v w) (h : okk ops l g d C.n = true) (c : WX b C Q ops rest ((d, v) :: l) m) : WX b C Q ops (⟨some d, .index t x y, ty, pos, af, g⟩ :: rest) l m := WX.q (Qv.index hx hy hr) rfl (okk_1 h) (okk_2 h) rfl c
theorem r_ia {e : TypeId} {A : Option Addr} {n c : Nat} {i : Int} (ht : C.P.underlying t = some (.slice e)) (he : (C.P.info? e).map (·.size) = some 1) (hx : opv l x = some (.slice A n c)) (hy : opv l y = some (.int k i)) (h : okk ops l g d C.n = true)
    (hA : 0 < n → A.isSome = true) (h0 : 0 ≤ i) (h1 : i < n) (cc : WX b C Q ops rest ((d, .pointer (A.map (·.add i.toNat))) :: l) m) : WX b C Q ops (⟨some d, .indexAddr t x y, ty, pos, af, g⟩ :: rest) l m := WX.q (Qv.indexAddr ht he hx hy hA h0 h1) rfl (okk_1 h) (okk_2 h) rfl cc
theorem Qv.indexMap {α : Type} {f : α → Value} {xs : List α} {e : TypeId} {A : Option Addr} {n c : Nat} {i : Int} {d : Option Nat} (ht : C.P.underlying t = some (.slice e)) (he : (C.P.info? e).map (·.size) = some 1) (hx : opv l x = some (.slice A n c)) (hy : opv l y = some (.int k i)) (hr : Rd C.w0 (m ++ C.m0) A (xs.map f))
    (hn : xs.length = n) (h0 : 0 ≤ i) (h1 : i < xs.length) : Qv C l m ⟨d, .indexAddr t x y, ty, pos, af, g⟩ (.pointer (A.map (·.add i.toNat))) := fun ev hev w hw => by
  have hlt : i.toNat < (xs.map f).length := by simp; omega
  obtain ⟨a, rfl, _⟩ := hr w hw i.toNat _ (List.getElem?_eq_getElem hlt)
  exact Qv.indexAddr ht he hx hy (fun _ => rfl) h0 (by omega) ev hev w hw
/-- The address of an element of a slice that can be read. -/
theorem r_im {α : Type} {f : α → Value} {xs : List α} {e : TypeId} {A : Option Addr} {n c : Nat} {i : Int} (hr : Rd C.w0 (m ++ C.m0) A (xs.map f)) (ht : C.P.underlying t = some (.slice e)) (he : (C.P.info? e).map (·.size) = some 1) (hx : opv l x = some (.slice A n c)) (hy : opv l y = some (.int k i)) (h : okk ops l g d C.n = true)
    (hn : xs.length = n) (h0 : 0 ≤ i) (h1 : i < xs.length) (cc : WX b C Q ops rest ((d, .pointer (A.map (·.add i.toNat))) :: l) m) : WX b C Q ops (⟨some d, .indexAddr t x y, ty, pos, af, g⟩ :: rest) l m := WX.q (Qv.indexMap ht he hx hy hr hn h0 h1) rfl (okk_1 h) (okk_2 h) rfl cc
/-- .. and what lies there: whole numbers; strings. -/
theorem r_li (j : Nat) {xs : List Int} {kk : IntKind} {dd : TypeDesc} {A : Option Addr} (hr : Rd C.w0 (m ++ C.m0) A (xs.map (.int kk ·))) (ht : C.P.underlying t = some dd) (h1 : oneTy dd = true) (hx : opv l x = some (.pointer (A.map (·.add j)))) (h : okk ops l g d C.n = true) (hj : j < xs.length) (c : WX b C Q ops rest ((d, .int kk (xs.getD j 0)) :: l) m) :
    WX b C Q ops (⟨some d, .load t x, ty, pos, af, g⟩ :: rest) l m := WX.q (Qv.load_rd ht h1 hx hr (by simp [hj])) rfl (okk_1 h) (okk_2 h) rfl c
theorem r_lt (j : Nat) {xs : List ByteArray} {dd : TypeDesc} {A : Option Addr} (hr : Rd C.w0 (m ++ C.m0) A (xs.map (.string ·))) (ht : C.P.underlying t = some dd) (h1 : oneTy dd = true) (hx : opv l x = some (.pointer (A.map (·.add j)))) (h : okk ops l g d C.n = true) (hj : j < xs.length) (c : WX b C Q ops rest ((d, .string (xs.getD j ⟨#[]⟩)) :: l) m) :
    WX b C Q ops (⟨some d, .load t x, ty, pos, af, g⟩ :: rest) l m := WX.q (Qv.load_rd ht h1 hx hr (by simp [hj])) rfl (okk_1 h) (okk_2 h) rfl c
theorem r_cv {t u : TypeId} {v r : Value} (hx : opv l x = some v) (hr : ∀ w, (convert t u v).run C.P w = .ok r w) (h : okk ops l g d C.n = true) (c : WX b C Q ops rest ((d, r) :: l) m) : WX b C Q ops (⟨some d, .convert t u x, ty, pos, af, g⟩ :: rest) l m := WX.q (Qv.convert hx hr) rfl (okk_1 h) (okk_2 h) rfl c
theorem r_bu {ps : List (Nat × Operand)} {vs : List (Nat × Value)} (hps : opps l ps = some vs) (hr : ∀ w, (Instr.build t vs.toArray).run C.P w = .ok v w) (h : okk ops l g d C.n = true) (c : WX b C Q ops rest ((d, v) :: l) m) : WX b C Q ops (⟨some d, .build t ps.toArray, ty, pos, af, g⟩ :: rest) l m := WX.q (Qv.build hps hr) rfl (okk_1 h) (okk_2 h) rfl c
theorem r_lr {dd : TypeDesc} {A : Option Addr} {i : Nat} {xs : List Value} (ht : C.P.underlying t = some dd) (h1 : oneTy dd = true) (hx : opv l x = some (.pointer (A.map (·.add i)))) (h : okk ops l g d C.n = true) (hr : Rd C.w0 (m ++ C.m0) A xs) (hv : xs[i]? = some v) (c : WX b C Q ops rest ((d, v) :: l) m) :
    WX b C Q ops (⟨some d, .load t x, ty, pos, af, g⟩ :: rest) l m := WX.q (Qv.load_rd ht h1 hx hr hv) rfl (okk_1 h) (okk_2 h) rfl c
theorem r_lb {dd : TypeDesc} {bb o : Nat} (i : Nat) {cs : List Value} {e : TypeId} (ht : C.P.underlying t = some dd) (h1 : oneTy dd = true) (hx : opv l x = some (.pointer (some ⟨bb, o, none⟩))) (h : okk ops l g d C.n = true) (hi : m[i]? = some (.blk bb cs e)) (hv : cs[o]? = some v) (c : WX b C Q ops rest ((d, v) :: l) m) :
    WX b C Q ops (⟨some d, .load t x, ty, pos, af, g⟩ :: rest) l m := WX.q (Qv.load_blk ht h1 hx hi hv) rfl (okk_1 h) (okk_2 h) rfl c
theorem r_la {dd : TypeDesc} {bb : Nat} (i : Nat) {cs : List Value} {e : TypeId} (ht : C.P.underlying t = some dd) (h1 : oneTy dd = false) (hz : (C.P.info? t).map (·.size) = some cs.length) (hx : opv l x = some (.pointer (some ⟨bb, 0, none⟩))) (h : okk ops l g d C.n = true) (hi : m[i]? = some (.blk bb cs e)) (c : WX b C Q ops rest ((d, .agg cs.toArray) :: l) m) :
    WX b C Q ops (⟨some d, .load t x, ty, pos, af, g⟩ :: rest) l m := WX.q (Qv.load_all ht h1 hz hx hi) rfl (okk_1 h) (okk_2 h) rfl c
theorem r_ta {t u : TypeId} {e : Bool} {v r : Value} (hx : opv l x = some v) (hr : ∀ w, (Instr.typeAssert v t u e).run C.P w = .ok r w) (h : okk ops l g d C.n = true) (c : WX b C Q ops rest ((d, r) :: l) m) : WX b C Q ops (⟨some d, .typeAssert x t u e, ty, pos, af, g⟩ :: rest) l m := WX.q (Qv.typeAssert hx hr) rfl (okk_1 h) (okk_2 h) rfl c
theorem r_bi {op : BinOp} (hx : opv l x = some u) (hy : opv l y = some v) (hgd : ∀ x y, eqGuard op t x y u v = pure ()) {s : Value} (hr : ∀ w, Mem C.w0 (m ++ C.m0) w → (binOp op t u v).run C.P w = .ok s w) (h : okk ops l g d C.n = true) (c : WX b C Q ops rest ((d, s) :: l) m) : WX b C Q ops (⟨some d, .binOp op t x y t', ty, pos, af, g⟩ :: rest) l m := WX.q (Qv.bin hx hy hgd hr) rfl (okk_1 h) (okk_2 h) rfl c
theorem r_iS {s : ByteArray} {i : Int} {v : UInt8} (ht : C.P.underlying t = some .string) (hx : opv l x = some (.string s)) (hy : opv l y = some (.int k i)) (h : okk ops l g d C.n = true) (h0 : 0 ≤ i) (hv : s.data[i.toNat]? = some v) (c : WX b C Q ops rest ((d, .int .u8 v.toNat) :: l) m) : WX b C Q ops (⟨some d, .index t x y, ty, pos, af, g⟩ :: rest) l m := WX.q (Qv.index_str ht hx hy h0 hv) rfl (okk_1 h) (okk_2 h) rfl c

def opds (l : List (Nat × Value)) : Nat → List (Nat × Operand) → Option (List Value)
  | _, [] => some []
  | j, (i, x) :: r => match Nat.beq i j, opv l x, opds l (j + 1) r with
    | true, some v, some vs => some (v :: vs)
    | _, _, _ => none
def numbered : Nat → List Value → List (Nat × Value)
  | _, [] => []
  | j, v :: r => (j, v) :: numbered (j + 1) r
theorem opps_of : ∀ (ps : List (Nat × Operand)) (j : Nat) (vs : List Value), opds l j ps = some vs → opps l ps = some (numbered j vs)
  | [], j, vs, h => by simp [opds] at h; subst h; rfl
  | (i, x) :: r, j, vs, h => by
    simp only [opds] at h
    split at h
    · rename_i h0 h1 h2
      have e := Nat.eq_of_beq_eq_true h0
      subst e
      have ih := opps_of r (i + 1) _ h2
      simp at h
      subst h
      simp [opps, h1, ih, numbered]
    · cases h
theorem r_bd {ps : List (Nat × Operand)} {vs : List Value} (hps : opds l 0 ps = some vs) (hr : ∀ w, (Instr.build t (numbered 0 vs).toArray).run C.P w = .ok (.agg vs.toArray) w) (h : okk ops l g d C.n = true) (c : WX b C Q ops rest ((d, .agg vs.toArray) :: l) m) : WX b C Q ops (⟨some d, .build t ps.toArray, ty, pos, af, g⟩ :: rest) l m := WX.q (Qv.build (opps_of ps 0 vs hps) hr) rfl (okk_1 h) (okk_2 h) rfl c


/-! ### Calls of functions without a text, and by a method's name -/
theorem r_xv {f : FuncId} {fo : Operand} {xs : List Operand} {vs : List Value} {ts : Array TypeId} (hfo : opv l fo = some (.func (.func f) #[] #[])) (hxs : opvs l xs = some vs) (hr : ∀ w, (callFunc f vs.toArray).run C.P w = .ok (.value v) w) (h : okk ops l g d C.n = true) (c : WX b C Q ops rest ((d, v) :: l) m) :
    WX b C Q ops (⟨some d, .call { callee := .value fo, args := xs.toArray, argTypes := ts }, ty, pos, af, g⟩ :: rest) l m :=
  WX.q (fun ev hev w _ => by
    have h1 := opvs_map hev xs vs hxs
    simp [execOp, resolve, hev fo _ hfo, Deferred.ofValue, invoke, h1, hr w]) rfl (okk_1 h) (okk_2 h) rfl c
theorem r_iv {name : String} {xs : List Operand} {vs : List Value} {ts : Array TypeId} (hx : opv l x = some u) (hxs : opvs l xs = some vs) (hr : ∀ w, (callMethod u name vs.toArray).run C.P w = .ok (.value v) w) (h : okk ops l g d C.n = true) (c : WX b C Q ops rest ((d, v) :: l) m) :
    WX b C Q ops (⟨some d, .call { callee := .invoke x name, args := xs.toArray, argTypes := ts }, ty, pos, af, g⟩ :: rest) l m :=
  WX.q (fun ev hev w _ => by
    have h1 := opvs_map hev xs vs hxs
    have h2 : Array.extract (#[u] ++ vs.toArray) 1 (#[u] ++ vs.toArray).size = vs.toArray := by simp
    simp only [execOp, resolve, hev x _ hx, List.map_toArray, h1, Sem.run_bind, Sem.run_pure, Result.andThen_ok, invoke]
    simp [hr w]) rfl (okk_1 h) (okk_2 h) rfl c
theorem WX.invoke {α : Type} {φ : α → Prop} {val : α → Value} {M : α → List Res} {name : String} {xs : List Operand} {vs args : List Value} {ts : Array TypeId} {f : FuncId} {m1 m2 : List Res} (hx : opv l x = some u) (hxs : opvs l xs = some vs) (hr : ∀ w, (callMethod u name vs.toArray).run C.P w = .ok (.enter f args.toArray) w)
    (hm : m = m1 ++ m2) (hsp : Ct C.P f args C.w0 m1 (m2 ++ C.m0) φ val M) (hdn : Nat.blt d C.n = true) (hg : wants ops l g = some true)
    (k : ∀ x, φ x → WX false C Q ops rest ((d, val x) :: l) (M x ++ m2)) : WX false C Q ops (⟨some d, .call { callee := .invoke x name, args := xs.toArray, argTypes := ts }, ty, pos, af, g⟩ :: rest) l m := by
  intro a w hs
  refine wpListIn_wanted (wanted_of hs.1 hg) rfl ?_
  have hrun : (execOp a.eval ⟨some d, .call { callee := .invoke x name, args := xs.toArray, argTypes := ts }, ty, pos, af, g⟩).run C.P w = .ok (.enter f args.toArray) w := by
    have h1 := opvs_map (ev_of hs.1) xs vs hxs
    simp only [execOp, resolve, hs.1.eval hx, List.map_toArray, h1, Sem.run_bind, Sem.run_pure, Result.andThen_ok, Go.invoke]
    simp [hr w]
  rw [hrun, Oper.uponIn_enter]
  refine ⟨fun h => by simp [FW] at h, ?_⟩
  have hc : CallsIn Fence.wide (0 - 1) C.P f args.toArray w (sp C.w0 (m2 ++ C.m0) φ val M) := callsIn_wide.2 (hsp.2 w (by rw [← List.append_assoc, ← hm]; exact hs.2))
  refine ⟨trivial, fun css hroom => ?_⟩
  obtain ⟨e, w', fr, hR, hcome, hfn, hleave⟩ := hc.2 css (room_wide _)
  refine ⟨e, w', fr, ?_, hcome, hfn, hleave⟩
  obtain ⟨x, hx, rfl, hmem⟩ := hR
  refine k x hx _ _ ⟨hs.1.put d _ hdn, ?_⟩
  rw [List.append_assoc]
  exact hmem
/-- A comparison that the kernel reckons. -/
theorem r_bk (s : Value) {op : BinOp} (hx : opv l x = some u) (hy : opv l y = some v) (hr : ∀ w, ((do eqGuard op t x y u v; binOp op t u v : Sem Value)).run C.P w = .ok s w) (h : okk ops l g d C.n = true) (c : WX b C Q ops rest ((d, s) :: l) m) : WX b C Q ops (⟨some d, .binOp op t x y t', ty, pos, af, g⟩ :: rest) l m :=
  WX.q (fun ev hev w _ => by
    have := hr w
    simp only [execOp, hev x _ hx, hev y _ hy]
    simp only [Sem.run_bind] at this ⊢
    rw [this]; rfl) rfl (okk_1 h) (okk_2 h) rfl c
theorem r_bq {e e' : Bool} (ht : C.P.underlying t = some .bool) (hx : opv l x = some (.bool e)) (hy : opv l y = some (.bool e')) (h : okk ops l g d C.n = true) (c : WX b C Q ops rest ((d, .bool (e == e')) :: l) m) : WX b C Q ops (⟨some d, .binOp .eql t x y t', ty, pos, af, g⟩ :: rest) l m :=
  WX.q (Qv.bin hx hy (fun _ _ => eqGuard_at_bool ..) (fun w _ => run_eql_bool w t e e' ht)) rfl (okk_1 h) (okk_2 h) rfl c

/-! ### Ranging over a string -/
theorem Mem.objRun {w0 w : World} {m m0 : List Res} {i b : Nat} {o : Obj} (hw : Mem w0 (m ++ m0) w) (hi : m[i]? = some (.obj b o)) : w.heap[b]? = some o := ((Mem.appL hw).all i _ hi).2
theorem Ev.range {s : ByteArray} {d : Option Nat} (ht : C.P.underlying t = some .string) (hx : opv l x = some (.string s)) : Ev (α := Nat) C l m ⟨d, .range t x, ty, pos, af, g⟩ (fun _ => True) (fun b => .pointer (some ⟨b, 0, none⟩)) (fun b => .obj b (.stringIter s 0) :: m) := fun ev hev w hw => by
  refine ⟨w.heap.size, w.alloc (.stringIter s 0), trivial, ?_, hw.add (World.grownBy_alloc w _ none) ⟨hw.bnd, heap_alloc_new w _⟩ (fun k hk => by simp [Res.block] at hk; omega)⟩
  simp [execOp, hev x _ hx, Instr.range, run_underlying ht]
theorem Ev.next {s : ByteArray} {d : Option Nat} {p i bb c wd : Nat} {m' : List Res} (hx : opv l x = some (.pointer (some ⟨bb, 0, none⟩))) (hi : m[i]? = some (.obj bb (.stringIter s p))) (hp : p < s.size) (hd : Utf8.decode s p = (c, wd)) (hm : m.set i (.obj bb (.stringIter s (p + wd))) = m') :
    Ev (α := Unit) C l m ⟨d, .next x true, ty, pos, af, g⟩ (fun _ => True) (fun _ => .tuple #[.bool true, .int .i64 p, .int .i32 c]) (fun _ => m') := fun ev hev w hw => by
  have ho := Mem.objRun hw hi
  have hlt : i < m.length := (List.getElem?_eq_some_iff.1 hi).1
  have hi' : (m ++ C.m0)[i]? = some (.obj bb (.stringIter s p)) := by rw [List.getElem?_append_left hlt]; exact hi
  have hb := (at_lt (hw.all i _ hi') bb rfl).2
  refine ⟨(), { w with heap := w.heap.setIfInBounds bb (.stringIter s (p + wd)) }, trivial, ?_, ?_⟩
  · simp [execOp, hev x _ hx, Instr.next, getObj, setObj, Sem.run, ho, hp, hd, goInt, Result.andThen]
  · rw [← hm, ← List.set_append_left _ _ hlt]
    refine hw.upd hi' ⟨rfl, rfl, rfl, by simp, fun k hk hne => ?_⟩ ⟨(at_lt (hw.all i _ hi') bb rfl).1, ?_⟩ (fun k hk => .inl hk)
    · simp only [Array.getElem?_setIfInBounds]
      rw [if_neg (fun e => hne (by rw [← e]; rfl))]
    · simp [hb]
theorem r_rg {s : ByteArray} (ht : C.P.underlying t = some .string) (hx : opv l x = some (.string s)) (h : okk ops l g d C.n = true) (c : ∀ n : Nat, WX false C Q ops rest ((d, .pointer (some ⟨n, 0, none⟩)) :: l) (.obj n (.stringIter s 0) :: m)) : WX false C Q ops (⟨some d, .range t x, ty, pos, af, g⟩ :: rest) l m := WX.ev (Ev.range ht hx) rfl (okk_1 h) (okk_2 h) rfl (fun n _ => c n)
theorem r_nT (i : Nat) {s : ByteArray} {p bb c wd : Nat} {m' : List Res} (hp : p < s.size) (hd : Utf8.decode s p = (c, wd)) (hx : opv l x = some (.pointer (some ⟨bb, 0, none⟩))) (hi : m[i]? = some (.obj bb (.stringIter s p))) (hm : m.set i (.obj bb (.stringIter s (p + wd))) = m') (h : okk ops l g d C.n = true) (k : WX false C Q ops rest ((d, .tuple #[.bool true, .int .i64 p, .int .i32 c]) :: l) m') : WX false C Q ops (⟨some d, .next x true, ty, pos, af, g⟩ :: rest) l m := WX.ev (Ev.next hx hi hp hd hm) rfl (okk_1 h) (okk_2 h) rfl (fun _ _ => k)
theorem r_nF (i : Nat) {s : ByteArray} {p bb : Nat} (hp : ¬ p < s.size) (hx : opv l x = some (.pointer (some ⟨bb, 0, none⟩))) (hi : m[i]? = some (.obj bb (.stringIter s p))) (h : okk ops l g d C.n = true) (k : WX false C Q ops rest ((d, .tuple #[.bool false]) :: l) m) : WX false C Q ops (⟨some d, .next x true, ty, pos, af, g⟩ :: rest) l m :=
  WX.q (fun ev hev w hw => by
    have ho := Mem.objRun hw hi
    simp [execOp, hev x _ hx, Instr.next, getObj, Sem.run, ho, hp, Result.andThen]) rfl (okk_1 h) (okk_2 h) rfl k

theorem r_al {e : TypeId} {cs : List Value} {z : Value} (hz : ∀ w, (zeroValue e).run C.P w = .ok z w) (hc : z.cells.toList = cs) (h : okk ops l g d C.n = true) (c : ∀ n : Nat, WX false C Q ops rest ((d, .pointer (some ⟨n, 0, none⟩)) :: l) (.blk n cs e :: m)) : WX false C Q ops (⟨some d, .alloc e, ty, pos, af, g⟩ :: rest) l m := WX.ev (Ev.alloc hz hc) rfl (okk_1 h) (okk_2 h) rfl (fun n _ => c n)
theorem r_bx {e : TypeId} {cs : List Value} (hx : opv l x = some v) (hc : v.cells.toList = cs) (h : okk ops l g d C.n = true) (c : ∀ n : Nat, WX false C Q ops rest ((d, .pointer (some ⟨n, 0, none⟩)) :: l) (.blk n cs e :: m)) : WX false C Q ops (⟨some d, .box e x, ty, pos, af, g⟩ :: rest) l m := WX.ev (Ev.box hx hc) rfl (okk_1 h) (okk_2 h) rfl (fun n _ => c n)
theorem r_bs {e : TypeId} {n : Nat} {ps : List (Nat × Operand)} {cs : List Value} (ht : C.P.underlying t = some (.slice e)) (hps : opds l 0 ps = some cs) (hr : ∀ w, (Instr.buildSlice t n (numbered 0 cs).toArray).run C.P w = .ok (.slice (some ⟨w.heap.size, 0, none⟩) n n) (w.alloc (.cells cs.toArray e))) (h : okk ops l g d C.n = true) (c : ∀ a : Nat, WX false C Q ops rest ((d, .slice (some ⟨a, 0, none⟩) n n) :: l) (.blk a cs e :: m)) : WX false C Q ops (⟨some d, .buildSlice t n ps.toArray, ty, pos, af, g⟩ :: rest) l m := WX.ev (Ev.buildSlice (opps_of ps 0 cs hps) hr) rfl (okk_1 h) (okk_2 h) rfl (fun n _ => c n)
theorem small_max {n : Nat} (hn : Nat.ble n 1000000 = true) : n ≤ maxLen := by
  have : n ≤ 1000000 := by simpa using hn
  unfold maxLen
  omega
theorem r_bo {e : TypeId} {n : Nat} {ps : List (Nat × Operand)} {cs : List Value} (ht : C.P.underlying t = some (.slice e)) (hps : opds l 0 ps = some cs) (hr : ∀ w, (Instr.buildSlice t n (numbered 0 cs).toArray).run C.P w = .ok (.slice (some ⟨w.heap.size, 0, none⟩) n n) (w.alloc (.cells cs.toArray e))) (hl : Nat.beq cs.length n = true) (hn : Nat.ble n 1000000 = true) (h : okk ops l g d C.n = true) (c : ∀ a : Nat, WX false C Q ops rest ((d, .slice (some ⟨a, 0, none⟩) n n) :: l) (.own (some ⟨a, 0, none⟩) n n cs e 1 :: m)) : WX false C Q ops (⟨some d, .buildSlice t n ps.toArray, ty, pos, af, g⟩ :: rest) l m :=
  WX.ev (Ev.buildOwn (opps_of ps 0 cs hps) hr (by have := Nat.eq_of_beq_eq_true hl; omega) (small_max hn)) rfl (okk_1 h) (okk_2 h) rfl (fun n _ => c n)
theorem r_st {bb o : Nat} (i : Nat) {cs : List Value} {e : TypeId} {m' : List Res} (hz : (C.P.info? t).map (·.size) = some 1) (hx : opv l x = some (.pointer (some ⟨bb, o, none⟩))) (hy : opv l y = some v) (h1 : v.oneCell' = true)
    (hi : m[i]? = some (.blk bb cs e)) (ho : Nat.blt o cs.length = true) (hm : m.set i (.blk bb (cs.set o v) e) = m') (hg : wants ops l g = some true) (c : WX false C Q ops rest l m') : WX false C Q ops (⟨none, .store t x y, ty, pos, af, g⟩ :: rest) l m := WX.st (Sv.store_blk hz hx hy h1 hi (by simpa using ho) hm) rfl hg rfl c
theorem r_sa {bb : Nat} (i : Nat) {cs us : List Value} {e : TypeId} {m' : List Res} (hz : (C.P.info? t).map (·.size) = some us.length) (hx : opv l x = some (.pointer (some ⟨bb, 0, none⟩))) (hy : opv l y = some (.agg us.toArray)) (h1 : us.all (·.oneCell') = true)
    (hi : m[i]? = some (.blk bb cs e)) (hl : cs.length = us.length) (hm : m.set i (.blk bb us e) = m') (hg : wants ops l g = some true) (c : WX false C Q ops rest l m') : WX false C Q ops (⟨none, .store t x y, ty, pos, af, g⟩ :: rest) l m := WX.st (Sv.store_all hz hx hy h1 hi hl hm) rfl hg rfl c

/-! ### Slices of the call's own: a store, an append -/
theorem Sv.store_own {d : Option Nat} {A : Option Addr} {n c j i : Nat} {xs : List Value} {e : TypeId} {m' : List Res} (hz : (C.P.info? t).map (·.size) = some 1) (hx : opv l x = some (.pointer (A.map (·.add j)))) (hy : opv l y = some v) (h1 : v.oneCell' = true)
    (hi : m[i]? = some (.own A c n xs e 1)) (hj : j < n) (hm : m.set i (.own A c n (xs.set j v) e 1) = m') : Sv C l m ⟨d, .store t x y, ty, pos, af, g⟩ m' := fun ev hev w hw => by
  have hlt : i < m.length := (List.getElem?_eq_some_iff.1 hi).1
  have hi' : (m ++ C.m0)[i]? = some (.own A c n xs e 1) := by rw [List.getElem?_append_left hlt]; exact hi
  have h : w.ownsRow C.w0.heap.size e 1 (.slice A n c) n xs := hw.all i _ hi'
  have hcells : v.cells = #[v] := by cases v <;> simp_all [Value.cells, Value.oneCell']
  rcases h.2 with ⟨_, h2⟩ | ⟨b, cap, cur, hv, hb, hg, hnc, hcm, hcs, htake⟩
  · omega
  · injection hv with e1 e2 e3
    subst e1 e3
    have hadd : (⟨b, 0, none⟩ : Addr).add j = ⟨b, j, none⟩ := by unfold Addr.add; split <;> simp_all
    have hjc : j < cur.size := by omega
    have hcell : w.cell? ⟨b, j, none⟩ = some cur[j] := by rw [cell_of_row w b j cur e (0, 0) hg]; simp [hjc]
    have hfro := frozen_of_row w b j cur e hg
    obtain ⟨s1, s2⟩ := h.stored j v
    have hx' : ev x = .pointer (some ⟨b, j, none⟩) := by rw [hev x _ hx]; simp [hadd]
    cases hq : C.P.info? t with
    | none => simp [hq] at hz
    | some inf =>
      have hs : inf.size = 1 := by simpa [hq] using hz
      refine ⟨w.setCell ⟨b, j, none⟩ v, ?_, ?_⟩
      · have hst : (store ⟨b, j, none⟩ v).run C.P w = .ok () (w.setCell ⟨b, j, none⟩ v) := by
          rw [run_store C.P w ⟨b, j, none⟩ v _ h1]
          simp [stored, hcell, hfro]
        simp [execOp, hx', hev y _ hy, Instr.storeAt, Instr.sureAddr, storeVar, sizeOf, typeInfo, hq, hs, hcells, storeCells, Addr.add_zero', hst]
      · rw [← hm, ← List.set_append_left _ _ hlt]
        exact hw.upd hi' s2 s1 (fun k hk => .inl hk)
theorem r_so (i j : Nat) {A : Option Addr} {n c : Nat} {xs : List Value} {e : TypeId} {m' : List Res} (hz : (C.P.info? t).map (·.size) = some 1) (hx : opv l x = some (.pointer (A.map (·.add j)))) (hy : opv l y = some v) (h1 : v.oneCell' = true)
    (hi : m[i]? = some (.own A c n xs e 1)) (hj : j < n) (hm : m.set i (.own A c n (xs.set j v) e 1) = m') (hg : wants ops l g = some true) (k : WX false C Q ops rest l m') : WX false C Q ops (⟨none, .store t x y, ty, pos, af, g⟩ :: rest) l m := WX.st (Sv.store_own hz hx hy h1 hi hj hm) rfl hg rfl k
theorem r_am (i : Nat) {α : Type} {f : α → Value} {xs ys : List α} {z : Value} {by_ : Nat} {s' : Operand} {e : TypeId} {A B : Option Addr} {c c' k : Nat} (ht : C.P.underlying t = some (.slice e)) (hinf : (C.P.info? e).map (fun i => (i.zero, i.size, i.bytes)) = some (some z, 1, by_)) (hzc : z.cells.size = 1)
    (hs : opv l s' = some (.slice A xs.length c)) (hx : opv l x = some (.slice B k c')) (hm : m[i]? = some (.own A c xs.length (xs.map f) e 1)) (hr : Rd C.w0 (m ++ C.m0) B (ys.map f)) (hk : ys.length = k) (h1 : ∀ a, (f a).oneCell' = true) (hlen : (xs.length + k) * (by_ + 1) ≤ 140737488355328) (h : okk ops l g d C.n = true)
    (cc : ∀ p : Option Addr × Nat, (p = (none, 0) ↔ (xs.length = 0 ∧ k = 0 ∧ A = none)) → WX false C Q ops rest ((d, .slice p.1 (xs ++ ys).length p.2) :: l) (m.set i (.own p.1 p.2 (xs ++ ys).length ((xs ++ ys).map f) e 1))) :
    WX false C Q ops (⟨some d, .call { callee := .builtin .append, args := #[s', x], argTypes := #[t, t] }, ty, pos, af, g⟩ :: rest) l m := by
  cases hq : C.P.info? e with
  | none => simp [hq] at hinf
  | some inf =>
    have h3 : inf.zero = some z ∧ inf.size = 1 ∧ inf.bytes = by_ := by simpa [hq] using hinf
    have hb1 : (xs.length + k) * by_ ≤ (xs.length + k) * (by_ + 1) := Nat.mul_le_mul_left _ (by omega)
    have hb2 : (xs.length + k) * 1 ≤ (xs.length + k) * (by_ + 1) := Nat.mul_le_mul_left _ (by omega)
    refine WX.ev (Ev.append (ys := ys.map f) ht hq h3.1 h3.2.1 h3.2.2 hzc hs hx hm hr (by simpa using hk) (by simpa using fun a _ => h1 a) (by unfold maxLen; omega) (by omega)) rfl (okk_1 h) (okk_2 h) rfl (fun p hp => ?_)
    have := cc p hp
    rw [List.length_append, List.map_append, hk] at this
    exact this

theorem r_nx {c : Code} {K : Act → World → Prop} (hK : ∀ l m, WC C Q c l m → CK C K l m) (h : WC C Q c l m) : WX b C (Exit.then K Q) ops [] l m := WX.nil (WE.then_n hK h)
theorem r_nl (h : WE C Q .normal l m) : WX b C Q ops [] l m := WX.nil h
theorem c_sq {x y : Code} (h : ∀ K : Act → World → Prop, (∀ l m, WC C Q y l m → CK C K l m) → WC C (Exit.then K Q) x l m) : WC C Q (.seq x y) l m := WC.seq h
theorem c_rg {i : Nat} {ops : List Oper} (h : WX false C Q ops.toArray ops l m) : WC C Q (.region i ops.toArray false) l m := WC.region_ h
theorem c_dr {i : Nat} {ops : List Oper} (hr : C.r = none) (hm : C.P.follows .mixedOrders = true) (hB : Region.lexB .any ops.toArray = true) (h : WX true C Q ops.toArray ops l m) : WC C Q (.region i ops.toArray true) l m := WC.draws_ hr hm hB h
theorem c_bl {i : Nat} {c : Code} (h : WC C (Exit.inBlock i Q) c l m) : WC C Q (.block i c) l m := WC.block h
theorem c_cT {x : Operand} {c c' : Code} (hc : opv l x = some (.bool true)) (h : WC C Q c l m) : WC C Q (.cond x c c') l m := WC.cond_t hc h
theorem c_cF {x : Operand} {c c' : Code} (hc : opv l x = some (.bool false)) (h : WC C Q c' l m) : WC C Q (.cond x c c') l m := WC.cond_f hc h
theorem c_sk (h : WE C Q .normal l m) : WC C Q .skip l m := WC.skip h
theorem c_lb {i : Nat} (h : WE C Q .normal l m) : WC C Q (.label i) l m := WC.label h
theorem c_ex {i : Nat} (h : WE C Q (.exit i) l m) : WC C Q (.exit i) l m := WC.exit h
theorem c_rt (h : WE C Q .ret l m) : WC C Q .ret l m := WC.ret h
theorem c_sc {c : Code} (hr : C.r = none) (h : WC C (Exit.noGoto Q) c l m) : WC C Q (.scope c) l m := WC.scope hr h
end

attribute [irreducible] WC WE WX WL WQ CK back met Ct Rd
end Go.Gp

/- Calls of the model's entries that read memory, make a block, or write one. -/
set_option linter.unusedVariables false
namespace Go.Gp
open Go.RowKit
section
variable {C : Cx} {Q : Po} {l : List (Nat × Value)} {m : List Res} {ops : Array Oper} {rest : List Oper} {ty : TypeId} {pos : String} {af : Array Edge} {g : Option (Nat × Bool)} {b : Bool} {d : Nat} {v u : Value} {x : Operand}

theorem exec_call {f : FuncId} {fo : Operand} {xs : List Operand} {vs : List Value} {ts : Array TypeId} {dd : Option Nat} (hfo : opv l fo = some (.func (.func f) #[] #[])) (hxs : opvs l xs = some vs) {ev : Operand → Value} (hev : ∀ x u, opv l x = some u → ev x = u) {P : Program} {w w' : World} {v : Value}
    (hr : (callFunc f vs.toArray).run P w = .ok (.value v) w') : (execOp ev ⟨dd, .call { callee := .value fo, args := xs.toArray, argTypes := ts }, ty, pos, af, g⟩).run P w = .ok (.value v) w' := by
  have h1 := opvs_map hev xs vs hxs
  simp [execOp, resolve, hev fo _ hfo, Deferred.ofValue, invoke, h1, hr]
/-- It reads memory. -/
theorem r_xm {f : FuncId} {fo : Operand} {xs : List Operand} {vs : List Value} {ts : Array TypeId} (hfo : opv l fo = some (.func (.func f) #[] #[])) (hxs : opvs l xs = some vs) (hr : ∀ w, Mem C.w0 (m ++ C.m0) w → (callFunc f vs.toArray).run C.P w = .ok (.value v) w) (h : okk ops l g d C.n = true) (c : WX b C Q ops rest ((d, v) :: l) m) :
    WX b C Q ops (⟨some d, .call { callee := .value fo, args := xs.toArray, argTypes := ts }, ty, pos, af, g⟩ :: rest) l m :=
  WX.q (fun ev hev w hw => exec_call hfo hxs hev (hr w hw)) rfl (okk_1 h) (okk_2 h) rfl c
/-- It makes one new block, and gives a value that names it. -/
theorem r_xa {f : FuncId} {fo : Operand} {xs : List Operand} {vs : List Value} {ts : Array TypeId} {cs : List Value} {e : TypeId} {val : Nat → Value} (hfo : opv l fo = some (.func (.func f) #[] #[])) (hxs : opvs l xs = some vs) (hr : ∀ w, (callFunc f vs.toArray).run C.P w = .ok (.value (val w.heap.size)) (w.alloc (.cells cs.toArray e))) (h : okk ops l g d C.n = true)
    (c : ∀ n : Nat, WX false C Q ops rest ((d, val n) :: l) (.blk n cs e :: m)) :
    WX false C Q ops (⟨some d, .call { callee := .value fo, args := xs.toArray, argTypes := ts }, ty, pos, af, g⟩ :: rest) l m :=
  WX.ev (α := Nat) (φ := fun _ => True) (v := val) (m' := fun n => .blk n cs e :: m) (fun ev hev w hw => ⟨w.heap.size, _, trivial, exec_call hfo hxs hev (hr w), hw.add (World.grownBy_alloc w _ none) ⟨hw.bnd, heap_alloc_new w _⟩ (fun k hk => by simp [Res.block] at hk; omega)⟩) rfl (okk_1 h) (okk_2 h) rfl (fun n _ => c n)
/-- It writes one cell of a block. -/
theorem r_xs (i : Nat) {f : FuncId} {fo : Operand} {xs : List Operand} {vs : List Value} {ts : Array TypeId} {bb o : Nat} {cs : List Value} {e : TypeId} {u : Value} {m' : List Res} (hfo : opv l fo = some (.func (.func f) #[] #[])) (hxs : opvs l xs = some vs) (hi : m[i]? = some (.blk bb cs e)) (ho : o < cs.length) (hm : m.set i (.blk bb (cs.set o u) e) = m')
    (hr : ∀ w, Mem C.w0 (m ++ C.m0) w → (callFunc f vs.toArray).run C.P w = .ok (.value v) (w.setCell ⟨bb, o, none⟩ u)) (h : okk ops l g d C.n = true) (c : WX false C Q ops rest ((d, v) :: l) m') :
    WX false C Q ops (⟨some d, .call { callee := .value fo, args := xs.toArray, argTypes := ts }, ty, pos, af, g⟩ :: rest) l m :=
  WX.ev (α := Unit) (φ := fun _ => True) (v := fun _ => v) (m' := fun _ => m') (fun ev hev w hw => by
    have hlt : i < m.length := (List.getElem?_eq_some_iff.1 hi).1
    have hi' : (m ++ C.m0)[i]? = some (.blk bb cs e) := by rw [List.getElem?_append_left hlt]; exact hi
    have h := hw.all i _ hi'
    have hset := setCell_eq_setRow w bb o cs.toArray e (0, 0) u h.2
    refine ⟨(), _, trivial, exec_call hfo hxs hev (hr w hw), ?_⟩
    rw [hset, ← hm, ← List.set_append_left _ _ hlt]
    refine hw.upd hi' (grownBy_setRow _) ⟨h.1, ?_⟩ (fun k hk => .inl hk)
    have := setRow_heap w bb cs.toArray (cs.toArray.setIfInBounds o u) e (0, 0) h.2
    simpa using this) rfl (okk_1 h) (okk_2 h) rfl (fun _ _ => c)
/-- What can be read, and what a block holds, in a world. -/
theorem Rd.get {w0 w : World} {m : List Res} {bb : Nat} {xs : List Value} {o : Nat} {v : Value} (h : Rd w0 m (some ⟨bb, 0, none⟩) xs) (hw : Mem w0 m w) (hv : xs[o]? = some v) : w.cell? ⟨bb, o, none⟩ = some v := by
  unfold Rd at h
  obtain ⟨a, ha, hc⟩ := h w hw o v hv
  obtain rfl := Option.some.inj ha
  by_cases ho : o = 0
  · subst ho; simpa [Addr.add] using hc
  · simpa [Addr.add, ho] using hc
theorem Mem.cellAt {w0 w : World} {m : List Res} {bb : Nat} {cs : List Value} {e : TypeId} (hw : Mem w0 m w) (i : Nat) (hi : m[i]? = some (.blk bb cs e)) {o : Nat} (ho : o < cs.length) : w.cell? ⟨bb, o, none⟩ = some cs[o] ∧ w.frozen? ⟨bb, o, none⟩ = false := by
  have h := hw.all i _ hi
  exact ⟨by rw [cell_of_row w bb o cs.toArray e (0, 0) h.2]; simp [ho], frozen_of_row w bb o cs.toArray e h.2⟩
/-- Memory put in another order, or some of it given up. -/
theorem WX.mem {m' : List Res} (hM : ∀ w, Mem C.w0 (m ++ C.m0) w → Mem C.w0 (m' ++ C.m0) w) (h : WX false C Q ops rest l m') : WX false C Q ops rest l m := by
  unfold WX WL at h ⊢
  exact fun a w hs => h a w ⟨hs.1, hM w hs.2⟩
end
end Go.Gp

/- Small laws that the walks want beside the logic. -/
namespace Go.Gp
open Go.RowKit
theorem cv_int {P : Program} {t u : TypeId} {k k' : IntKind} {n : Int} (hs : (P.underlying t).isSome = true) (hd : P.underlying u = some (.int k')) (hw : k'.wrap n = n) (w : World) : (convert t u (.int k n)).run P w = .ok (.int k' n) w := by
  have e : P.intKind u = k' := by simp [Program.intKind, hd]
  rw [run_convert_int w t u k n hs (by rw [e]; exact hd), e, hw]
theorem w32 {n : Int} (h : -2147483648 ≤ n ∧ n ≤ 2147483647) : IntKind.i32.wrap n = n := IntWalk.i32_in _ h
theorem w64 {n : Int} (h : -9223372036854775808 ≤ n ∧ n ≤ 9223372036854775807) : IntKind.i64.wrap n = n := IntWalk.i64_in _ h
theorem w8 {n : Int} (h : 0 ≤ n ∧ n ≤ 255) : IntKind.u8.wrap n = n := IntWalk.u8_in _ h
theorem wu32 {n : Int} (h : 0 ≤ n ∧ n ≤ 4294967295) : IntKind.u32.wrap n = n := by rw [IntKind.wrap_u32]; omega
end Go.Gp

/- More operations: min, max, cap, slices of strings, equality of strings. -/
set_option linter.unusedVariables false
namespace Go.Gp
open Go.RowKit
section
variable {C : Cx} {Q : Po} {l : List (Nat × Value)} {m : List Res} {ops : Array Oper} {rest : List Oper} {ty : TypeId} {pos : String} {af : Array Edge} {g : Option (Nat × Bool)} {b : Bool} {d : Nat} {v u : Value} {x y z : Operand} {t t' t2 : TypeId} {k k' : IntKind} {p q : Int}
theorem r_mx (hx : opv l x = some (.int k p)) (hy : opv l y = some (.int k' q)) (h : okk ops l g d C.n = true) (c : WX b C Q ops rest ((d, .int k (max p q)) :: l) m) :
    WX b C Q ops (⟨some d, .call { callee := .builtin .max, args := #[x, y], argTypes := #[t, t'] }, ty, pos, af, g⟩ :: rest) l m :=
  WX.q (fun ev hev w _ => by simp [execOp, resolve, invoke, builtin, hev x _ hx, hev y _ hy, Go.Lib.run_max_ints]) rfl (okk_1 h) (okk_2 h) rfl c
theorem r_mn (hx : opv l x = some (.int k p)) (hy : opv l y = some (.int k' q)) (h : okk ops l g d C.n = true) (c : WX b C Q ops rest ((d, .int k (min p q)) :: l) m) :
    WX b C Q ops (⟨some d, .call { callee := .builtin .min, args := #[x, y], argTypes := #[t, t'] }, ty, pos, af, g⟩ :: rest) l m :=
  WX.q (fun ev hev w _ => by simp [execOp, resolve, invoke, builtin, hev x _ hx, hev y _ hy, Go.Lib.run_min_ints]) rfl (okk_1 h) (okk_2 h) rfl c
theorem Qv.cap {e : TypeId} {A : Option Addr} {n c : Nat} {dd : Option Nat} (ht : C.P.underlying t = some (.slice e)) (hx : opv l x = some (.slice A n c)) : Qv C l m ⟨dd, .call { callee := .builtin .cap, args := #[x], argTypes := #[t] }, ty, pos, af, g⟩ (.int .i64 c) := fun ev hev w _ => by
  simp [execOp, resolve, invoke, builtin, hev x _ hx, Builtin.cap_, run_underlying ht, goInt]
theorem r_cp {e : TypeId} {A : Option Addr} {n c : Nat} (ht : C.P.underlying t = some (.slice e)) (hx : opv l x = some (.slice A n c)) (h : okk ops l g d C.n = true) (cc : WX b C Q ops rest ((d, .int .i64 c) :: l) m) :
    WX b C Q ops (⟨some d, .call { callee := .builtin .cap, args := #[x], argTypes := #[t] }, ty, pos, af, g⟩ :: rest) l m := WX.q (Qv.cap ht hx) rfl (okk_1 h) (okk_2 h) rfl cc
/-- s[i:j] of a string. -/
theorem Qv.sliceStr {s : ByteArray} {i j : Int} {dd : Option Nat} (ht : C.P.underlying t = some .string) (hx : opv l x = some (.string s)) (hy : opv l y = some (.int k i)) (hz : opv l z = some (.int k' j)) (h0 : 0 ≤ i) (h1 : i ≤ j) (h2 : j ≤ s.size) :
    Qv C l m ⟨dd, .slice t x (some y) (some z) none, ty, pos, af, g⟩ (.string (s.extract i.toNat j.toNat)) := fun ev hev w _ => by
  have := run_slice_string (P := C.P) w t s k k' i j ht h0 h1 h2
  simp [execOp, hev x _ hx, hev y _ hy, hev z _ hz, Instr.sliceAt, run_underlying ht, this]
theorem run_slice_to {P : Program} (w : World) (t : TypeId) (s : ByteArray) (k : IntKind) (j : Int) (h : P.underlying t = some .string) (h1 : 0 ≤ j) (h2 : j ≤ s.size) :
    (Instr.slice t (.string s) none (some (.int k j)) none).run P w = .ok (.string (s.extract 0 j.toNat)) w := by
  have hj : 0 ≤ j ∧ j ≤ (s.size : Int) := ⟨h1, h2⟩
  simp [Instr.slice, Instr.sliceBounds, Instr.sliceBound, asIntOf, run_underlying h, hj]
theorem run_slice_from {P : Program} (w : World) (t : TypeId) (s : ByteArray) (k : IntKind) (i : Int) (h : P.underlying t = some .string) (h0 : 0 ≤ i) (h2 : i ≤ s.size) :
    (Instr.slice t (.string s) (some (.int k i)) none none).run P w = .ok (.string (s.extract i.toNat s.size)) w := by
  have hi : 0 ≤ i ∧ i ≤ (s.size : Int) := ⟨h0, h2⟩
  simp [Instr.slice, Instr.sliceBounds, Instr.sliceBound, asIntOf, run_underlying h, hi]
theorem r_sS {s : ByteArray} {i j : Int} (ht : C.P.underlying t = some .string) (hx : opv l x = some (.string s)) (hy : opv l y = some (.int k i)) (hz : opv l z = some (.int k' j)) (h0 : 0 ≤ i) (h1 : i ≤ j) (h2 : j ≤ s.size) (h : okk ops l g d C.n = true) (c : WX b C Q ops rest ((d, .string (s.extract i.toNat j.toNat)) :: l) m) :
    WX b C Q ops (⟨some d, .slice t x (some y) (some z) none, ty, pos, af, g⟩ :: rest) l m := WX.q (Qv.sliceStr ht hx hy hz h0 h1 h2) rfl (okk_1 h) (okk_2 h) rfl c
theorem r_sT {s : ByteArray} {j : Int} (ht : C.P.underlying t = some .string) (hx : opv l x = some (.string s)) (hz : opv l z = some (.int k' j)) (h1 : 0 ≤ j) (h2 : j ≤ s.size) (h : okk ops l g d C.n = true) (c : WX b C Q ops rest ((d, .string (s.extract 0 j.toNat)) :: l) m) :
    WX b C Q ops (⟨some d, .slice t x none (some z) none, ty, pos, af, g⟩ :: rest) l m :=
  WX.q (fun ev hev w _ => by simp [execOp, hev x _ hx, hev z _ hz, Instr.sliceAt, run_underlying ht, run_slice_to w t s k' j ht h1 h2]) rfl (okk_1 h) (okk_2 h) rfl c
theorem r_sF {s : ByteArray} {i : Int} (ht : C.P.underlying t = some .string) (hx : opv l x = some (.string s)) (hy : opv l y = some (.int k i)) (h0 : 0 ≤ i) (h2 : i ≤ s.size) (h : okk ops l g d C.n = true) (c : WX b C Q ops rest ((d, .string (s.extract i.toNat s.size)) :: l) m) :
    WX b C Q ops (⟨some d, .slice t x (some y) none none, ty, pos, af, g⟩ :: rest) l m :=
  WX.q (fun ev hev w _ => by simp [execOp, hev x _ hx, hev y _ hy, Instr.sliceAt, run_underlying ht, run_slice_from w t s k i ht h0 h2]) rfl (okk_1 h) (okk_2 h) rfl c
/-- Equality of strings. -/
theorem r_seq {s s' : ByteArray} (hx : opv l x = some (.string s)) (hy : opv l y = some (.string s')) (hgd : ∀ w, (eqGuard .eql t x y (.string s) (.string s')).run C.P w = .ok () w) (h : okk ops l g d C.n = true) (c : WX b C Q ops rest ((d, .bool (decide (s = s'))) :: l) m) :
    WX b C Q ops (⟨some d, .binOp .eql t x y t', ty, pos, af, g⟩ :: rest) l m :=
  r_bk (.bool (decide (s = s'))) hx hy (fun w => by
    have e : (s.toList == s'.toList) = decide (s = s') := by
      by_cases hs : s = s'
      · subst hs; simp
      · have : s.toList ≠ s'.toList := fun he => hs (by
          have e1 := congrArg List.toArray he
          cases s; cases s'
          simp_all [ByteArray.toList_eq])
        simp [hs, this]
    simp [hgd w, binOp_string_eql, e]) h c
/-- A conversion that looks at memory. -/
theorem r_cm {r : Value} (hx : opv l x = some v) (hr : ∀ w, Mem C.w0 (m ++ C.m0) w → (convert t t2 v).run C.P w = .ok r w) (h : okk ops l g d C.n = true) (c : WX b C Q ops rest ((d, r) :: l) m) : WX b C Q ops (⟨some d, .convert t t2 x, ty, pos, af, g⟩ :: rest) l m :=
  WX.q (fun ev hev w hw => by simp [execOp, hev x _ hx, hr w hw]) rfl (okk_1 h) (okk_2 h) rfl c
theorem Mem.shape {w0 w : World} {m : List Res} {bb : Nat} {cs : List Value} {e : TypeId} (hw : Mem w0 m w) (i : Nat) (hi : m[i]? = some (.blk bb cs e)) : w.shape? bb = some (e, cs.length) := by
  have h := (hw.all i _ hi).2
  simp [World.shape?, h]
/-- A resource is given up, whatever became of its block. -/
theorem Mem.eat {w0 w w' : World} {r : Res} {m : List Res} (hw : Mem w0 (r :: m) w) (hg : w.grownBy w' r.block) : Mem w0 m w' := by
  refine ⟨hw.below.grown hg hw.bnd (fun k hk => (at_lt (hw.all 0 r rfl) k hk).1), fun i s hi => ?_, fun i j s t hij hi hj => hw.apart (i + 1) (j + 1) s t (by omega) hi hj⟩
  exact res_kept (hw.all (i + 1) s hi) hg (fun k hk e => hw.apart 0 (i + 1) r s (by omega) rfl hi k e hk)
end
end Go.Gp

/- Regions that draw their order and hold operations that turn the world: what yields the same in every world that keeps some memory is taken first, what turns the world comes up alone. -/
set_option linter.unusedVariables false
namespace Go.Gp
open Go.RowKit

/-- Q, but false at a panic. -/
def NP (Q : Po) : Po
  | .panic _, _, _ => False
  | e, a, w => Q e a w
theorem NP.imp {Q : Po} : ∀ (e : Exit) (a : Act) (w : World), NP Q e a w → Q e a w := fun e a w h => by
  cases e <;> first | exact h | exact (h : False).elim

/-- The first k have come up. -/
def fk (n k : Nat) : Array Bool := ((List.range n).map fun i => Nat.blt i k).toArray
def WH (mk : List Res) (C : Cx) (Q : Po) (ops : Array Oper) (k : Nat) (l : List (Nat × Value)) (m : List Res) : Prop :=
  ∀ a w, C.St l m a w → wpAnyH C.P .any ops (NP Q) (fun w => Mem C.w0 (mk ++ C.m0) w) (ops.size - k) (fk ops.size k) a w

/-- Number k may be taken first. -/
def takeB (ops : Array Oper) (k : Nat) : Bool :=
  Region.noSelect ops && Nat.blt k ops.size && Region.free .any ops (fk ops.size k) k && (Region.ready .any ops (fk ops.size k)).contains k && ((fk ops.size k).setIfInBounds k true == fk ops.size (k + 1))
/-- Number k alone may come up. -/
def soleB (ops : Array Oper) (k : Nat) : Bool :=
  Nat.blt k ops.size && (Region.ready .any ops (fk ops.size k) == [k]) && ((fk ops.size k).setIfInBounds k true == fk ops.size (k + 1))

section
variable {mk : List Res} {C : Cx} {Q : Po} {l : List (Nat × Value)} {m : List Res} {ops : Array Oper} {k : Nat}

theorem WC.held {i : Nat} {ops : List Oper} (mk : List Res) (hr : C.r = none) (hm : C.P.follows .mixedOrders = true) (h : WH mk C Q ops.toArray 0 l m) : WC C Q (.region i ops.toArray true) l m := by
  unfold WC
  intro a w hs
  have e : FW C.r = Fence.wide := by rw [hr]; rfl
  rw [e]
  refine wpIn_wide.2 (Code.wp_mono NP.imp (wp_region_held (S := fun w => Mem C.w0 (mk ++ C.m0) w) hm ?_))
  have h' := h a { w with drawn := w.drawn + 1 } ⟨hs.1, hs.2.drew⟩
  have e2 : fk ops.toArray.size 0 = Array.replicate ops.toArray.size false := by
    apply Array.ext
    · simp [fk]
    · intro j h1 h2
      simp [fk]
      rfl
  rw [Nat.sub_zero, e2] at h'
  exact h'

theorem WH.take {o : Oper} {v : Value} {d : Nat} (hi : ops[k]? = some o) (hB : takeB ops k = true) (hv : Qv C l mk o v) (hd : o.dst = some d) (hdn : Nat.blt d C.n = true) (hg : wants ops l o.guard = some true)
    (hS : ∀ w, Mem C.w0 (m ++ C.m0) w → Mem C.w0 (mk ++ C.m0) w) (h : WH mk C Q ops (k + 1) ((d, v) :: l) m) : WH mk C Q ops k l m := by
  intro a w hs
  simp only [takeB, Bool.and_eq_true, beq_iff_eq] at hB
  obtain ⟨⟨⟨⟨h1, h2⟩, h3⟩, h4⟩, h5⟩ := hB
  have hlt : k < ops.size := by simpa using h2
  rw [show ops.size - k = ops.size - (k + 1) + 1 by omega]
  refine wpAnyH_take hi h1 h3 h4 (fun _ _ _ h => h) (v := v) (.inl ⟨wanted_of hs.1 hg, fun w' hw' => hv a.eval (ev_of hs.1) w' hw'⟩) (hS w hs.2) ?_
  rw [h5, hd]
  exact h _ w ⟨hs.1.put d v hdn, hs.2⟩
theorem WH.pass {o : Oper} {d : Nat} (hi : ops[k]? = some o) (hB : takeB ops k = true) (hd : o.dst = some d) (hdn : Nat.blt d C.n = true) (hg : wants ops l o.guard = some false)
    (hS : ∀ w, Mem C.w0 (m ++ C.m0) w → Mem C.w0 (mk ++ C.m0) w) (h : WH mk C Q ops (k + 1) ((d, undef) :: l) m) : WH mk C Q ops k l m := by
  intro a w hs
  simp only [takeB, Bool.and_eq_true, beq_iff_eq] at hB
  obtain ⟨⟨⟨⟨h1, h2⟩, h3⟩, h4⟩, h5⟩ := hB
  have hlt : k < ops.size := by simpa using h2
  rw [show ops.size - k = ops.size - (k + 1) + 1 by omega]
  refine wpAnyH_take hi h1 h3 h4 (fun _ _ _ h => h) (v := undef) (.inr ⟨wanted_of hs.1 hg, rfl⟩) (hS w hs.2) ?_
  rw [h5, hd]
  exact h _ w ⟨hs.1.put d undef hdn, hs.2⟩

theorem WH.sole {o : Oper} (hi : ops[k]? = some o) (hB : soleB ops k = true) (hg : wants ops l o.guard = some true)
    (h : ∀ a w, C.St l m a w → o.wp C.P a w (fun a' w' => Mem C.w0 (mk ++ C.m0) w' ∧ wpAnyH C.P .any ops (NP Q) (fun w => Mem C.w0 (mk ++ C.m0) w) (ops.size - (k + 1)) (fk ops.size (k + 1)) a' w') (NP Q)) : WH mk C Q ops k l m := by
  intro a w hs
  simp only [soleB, Bool.and_eq_true, beq_iff_eq] at hB
  obtain ⟨⟨h2, h3⟩, h5⟩ := hB
  have hlt : k < ops.size := by simpa using h2
  rw [show ops.size - k = ops.size - (k + 1) + 1 by omega]
  refine wpAnyH_all h3 (by simp) (fun i hi' => ?_)
  rw [List.mem_singleton] at hi'
  subst hi'
  rw [h5]
  unfold wpOp
  simp only [hi, wanted_of hs.1 hg, if_true]
  exact .inl (h a w hs)
theorem WH.ev {α : Type} {o : Oper} {φ : α → Prop} {v : α → Value} {m' : α → List Res} {d : Nat} (hi : ops[k]? = some o) (hB : soleB ops k = true) (hv : Ev C l m o φ v m') (hd : o.dst = some d) (hdn : Nat.blt d C.n = true) (hg : wants ops l o.guard = some true)
    (hS : ∀ x w, Mem C.w0 (m' x ++ C.m0) w → Mem C.w0 (mk ++ C.m0) w) (h : ∀ x, φ x → WH mk C Q ops (k + 1) ((d, v x) :: l) (m' x)) : WH mk C Q ops k l m :=
  WH.sole hi hB hg fun a w hs => by
    obtain ⟨x, w', hx, hr, hm⟩ := hv a.eval (ev_of hs.1) w hs.2
    unfold Oper.wp
    rw [hr, Oper.upon_value, hd]
    exact ⟨hS x _ hm, h x hx _ _ ⟨hs.1.put d _ hdn, hm⟩⟩
theorem WH.st {o : Oper} {m' : List Res} (hi : ops[k]? = some o) (hB : soleB ops k = true) (hv : Sv C l m o m') (hd : o.dst = none) (hg : wants ops l o.guard = some true)
    (hS : ∀ w, Mem C.w0 (m' ++ C.m0) w → Mem C.w0 (mk ++ C.m0) w) (h : WH mk C Q ops (k + 1) l m') : WH mk C Q ops k l m :=
  WH.sole hi hB hg fun a w hs => by
    obtain ⟨w', hr, hm⟩ := hv a.eval (ev_of hs.1) w hs.2
    unfold Oper.wp
    rw [hr, Oper.upon_skip, hd]
    exact ⟨hS _ hm, h _ _ ⟨hs.1, hm⟩⟩
theorem WH.qv {o : Oper} {v : Value} {d : Nat} (hi : ops[k]? = some o) (hB : soleB ops k = true) (hv : Qv C l m o v) (hd : o.dst = some d) (hdn : Nat.blt d C.n = true) (hg : wants ops l o.guard = some true)
    (hS : ∀ w, Mem C.w0 (m ++ C.m0) w → Mem C.w0 (mk ++ C.m0) w) (h : WH mk C Q ops (k + 1) ((d, v) :: l) m) : WH mk C Q ops k l m :=
  WH.ev (α := Unit) (φ := fun _ => True) (v := fun _ => v) (m' := fun _ => m) hi hB (fun ev hev w hw => ⟨(), w, trivial, hv ev hev w hw, hw⟩) hd hdn hg (fun _ => hS) (fun _ _ => h)
theorem WH.call {α : Type} {φ : α → Prop} {val : α → Value} {M : α → List Res} {d : Nat} {ty : TypeId} {pos : String} {af : Array Edge} {g : Option (Nat × Bool)} {fo : Operand} {xs : List Operand} {ts : Array TypeId} {f : FuncId} {vs cs : List Value} {m1 m2 : List Res}
    (hi : ops[k]? = some ⟨some d, .call { callee := .value fo, args := xs.toArray, argTypes := ts }, ty, pos, af, g⟩) (hB : soleB ops k = true)
    (hfo : opv l fo = some (.func (.func f) #[] cs.toArray)) (hxs : opvs l xs = some vs) (hm : m = m1 ++ m2) (hsp : Ct C.P f (vs ++ cs) C.w0 m1 (m2 ++ C.m0) φ val M) (hdn : Nat.blt d C.n = true) (hg : wants ops l g = some true)
    (hS : ∀ x w, Mem C.w0 (M x ++ m2 ++ C.m0) w → Mem C.w0 (mk ++ C.m0) w) (h : ∀ x, φ x → WH mk C Q ops (k + 1) ((d, val x) :: l) (M x ++ m2)) : WH mk C Q ops k l m :=
  WH.sole hi hB hg fun a w hs => by
    unfold Ct at hsp
    have hrun := run_call hsp.1 (ev := a.eval) (d := some d) (ty := ty) (pos := pos) (af := af) (g := g) (ts := ts) (ev_of hs.1 _ _ hfo) (opvs_map (ev_of hs.1) xs vs hxs) w
    unfold Oper.wp
    rw [hrun, Oper.upon_enter]
    refine (hsp.2 w (by rw [← List.append_assoc, ← hm]; exact hs.2)).mono fun e w' hh => ?_
    unfold sp at hh
    obtain ⟨x, hx, rfl, hmem⟩ := hh
    have hmem' : Mem C.w0 (M x ++ m2 ++ C.m0) w' := by rw [List.append_assoc]; exact hmem
    exact ⟨hS x _ hmem', h x hx _ _ ⟨hs.1.put d _ hdn, hmem'⟩⟩
theorem WH.nil (hk : k = ops.size) (hr : Region.ready .any ops (fk ops.size k) = []) (h : WE C Q .normal l m) : WH mk C Q ops k l m := by
  intro a w hs
  unfold WE at h
  exact wpAnyH_done (Q := NP Q) hr (show NP Q .normal a w from h a w hs) _
/-- A new slice. -/
theorem WH.bo {t e : TypeId} {d n : Nat} {ty : TypeId} {pos : String} {af : Array Edge} {g : Option (Nat × Bool)} {ps : List (Nat × Operand)} {cs : List Value} (hi : ops[k]? = some ⟨some d, .buildSlice t n ps.toArray, ty, pos, af, g⟩) (hB : soleB ops k = true) (ht : C.P.underlying t = some (.slice e)) (hps : opds l 0 ps = some cs)
    (hr : ∀ w, (Instr.buildSlice t n (numbered 0 cs).toArray).run C.P w = .ok (.slice (some ⟨w.heap.size, 0, none⟩) n n) (w.alloc (.cells cs.toArray e))) (hl : Nat.beq cs.length n = true) (hn : Nat.ble n 1000000 = true) (hdn : Nat.blt d C.n = true) (hg : wants ops l g = some true)
    (hS : ∀ a w, Mem C.w0 (.own (some ⟨a, 0, none⟩) n n cs e 1 :: m ++ C.m0) w → Mem C.w0 (mk ++ C.m0) w) (h : ∀ a : Nat, WH mk C Q ops (k + 1) ((d, .slice (some ⟨a, 0, none⟩) n n) :: l) (.own (some ⟨a, 0, none⟩) n n cs e 1 :: m)) : WH mk C Q ops k l m :=
  WH.ev hi hB (Ev.buildOwn (opps_of ps 0 cs hps) hr (by have := Nat.eq_of_beq_eq_true hl; omega) (small_max hn)) rfl hdn hg hS (fun a _ => h a)
/-- An append onto a slice that the call owns. -/
theorem WH.am (i : Nat) {α : Type} {f : α → Value} {xs ys : List α} {z : Value} {by_ : Nat} {d : Nat} {t ty : TypeId} {pos : String} {af : Array Edge} {g : Option (Nat × Bool)} {s' x : Operand} {e : TypeId} {A B : Option Addr} {c c' n : Nat} (hop : ops[k]? = some ⟨some d, .call { callee := .builtin .append, args := #[s', x], argTypes := #[t, t] }, ty, pos, af, g⟩) (hB : soleB ops k = true)
    (ht : C.P.underlying t = some (.slice e)) (hinf : (C.P.info? e).map (fun i => (i.zero, i.size, i.bytes)) = some (some z, 1, by_)) (hzc : z.cells.size = 1)
    (hs : opv l s' = some (.slice A xs.length c)) (hx : opv l x = some (.slice B n c')) (hm : m[i]? = some (.own A c xs.length (xs.map f) e 1)) (hr : Rd C.w0 (m ++ C.m0) B (ys.map f)) (hk : ys.length = n) (h1 : ∀ a, (f a).oneCell' = true) (hlen : (xs.length + n) * (by_ + 1) ≤ 140737488355328) (hdn : Nat.blt d C.n = true) (hg : wants ops l g = some true)
    (hS : ∀ (p : Option Addr × Nat) w, Mem C.w0 (m.set i (.own p.1 p.2 (xs ++ ys).length ((xs ++ ys).map f) e 1) ++ C.m0) w → Mem C.w0 (mk ++ C.m0) w)
    (cc : ∀ p : Option Addr × Nat, WH mk C Q ops (k + 1) ((d, .slice p.1 (xs ++ ys).length p.2) :: l) (m.set i (.own p.1 p.2 (xs ++ ys).length ((xs ++ ys).map f) e 1))) : WH mk C Q ops k l m := by
  cases hq : C.P.info? e with
  | none => simp [hq] at hinf
  | some inf =>
    have h3 : inf.zero = some z ∧ inf.size = 1 ∧ inf.bytes = by_ := by simpa [hq] using hinf
    have hb1 : (xs.length + n) * by_ ≤ (xs.length + n) * (by_ + 1) := Nat.mul_le_mul_left _ (by omega)
    have hb2 : (xs.length + n) * 1 ≤ (xs.length + n) * (by_ + 1) := Nat.mul_le_mul_left _ (by omega)
    have e1 : (xs ++ ys).length = xs.length + n := by rw [List.length_append, hk]
    refine WH.ev hop hB (Ev.append (ys := ys.map f) ht hq h3.1 h3.2.1 h3.2.2 hzc hs hx hm hr (by simpa using hk) (by simpa using fun a _ => h1 a) (by unfold maxLen; omega) (by omega)) rfl hdn hg (fun p w hw => ?_) (fun p hp => ?_)
    · refine hS p w ?_
      rw [e1, List.map_append]
      exact hw
    · have := cc p
      rw [e1, List.map_append] at this
      exact this
end

/-! ### A region that draws its order, whose last operations alone turn the world -/
def WT (C : Cx) (Q : Po) (ops : Array Oper) (rest : List Oper) (l : List (Nat × Value)) (m : List Res) : Prop := ∀ a w, C.St l m a w → wpList C.P ops Q rest a w
def WS (C : Cx) (Q : Po) (ops : Array Oper) (tail rest : List Oper) (l : List (Nat × Value)) (m : List Res) : Prop := ∀ a w, C.St l m a w → wpStill C.P ops w (fun a' => wpList C.P ops Q tail a' w) rest a
section
variable {C : Cx} {Q : Po} {l : List (Nat × Value)} {m : List Res} {ops : Array Oper} {rest tail : List Oper}
theorem WC.stail {i : Nat} {ops : List Oper} (n : Nat) (hr : C.r = none) (hm : C.P.follows .mixedOrders = true) (hB : Region.lexTailB .any ops.toArray n = true) (h : WS C Q ops.toArray (ops.drop n) (ops.take n) l m) : WC C Q (.region i ops.toArray true) l m := by
  unfold WC
  intro a w hs
  have e : FW C.r = Fence.wide := by rw [hr]; rfl
  rw [e]
  exact wpIn_wide.2 (wp_region_still_tail n hm hB (h a { w with drawn := w.drawn + 1 } ⟨hs.1, hs.2.drew⟩))
theorem WS.q {o : Oper} {v : Value} {d : Nat} (hv : Qv C l m o v) (hd : o.dst = some d) (hdn : Nat.blt d C.n = true) (hg : wants ops l o.guard = some true) (k : WS C Q ops tail rest ((d, v) :: l) m) : WS C Q ops tail (o :: rest) l m := by
  intro a w hs
  unfold wpStill
  rw [if_pos (wanted_of hs.1 hg)]
  unfold Oper.still
  rw [hv a.eval (ev_of hs.1) w hs.2]
  have := k _ w ⟨hs.1.put d v hdn, hs.2⟩
  rw [← hd] at this
  exact ⟨rfl, this⟩
theorem WS.nil (k : WT C Q ops tail l m) : WS C Q ops tail [] l m := fun a w hs => k a w hs
theorem WT.ev {α : Type} {o : Oper} {φ : α → Prop} {v : α → Value} {m' : α → List Res} {d : Nat} (hv : Ev C l m o φ v m') (hd : o.dst = some d) (hdn : Nat.blt d C.n = true) (hg : wants ops l o.guard = some true) (k : ∀ x, φ x → WT C Q ops rest ((d, v x) :: l) (m' x)) : WT C Q ops (o :: rest) l m := by
  intro a w hs
  obtain ⟨x, w', hx, hr, hm⟩ := hv a.eval (ev_of hs.1) w hs.2
  unfold wpList
  rw [if_pos (wanted_of hs.1 hg)]
  refine .inl ?_
  unfold Oper.wp
  rw [hr, Oper.upon_value, hd]
  exact k x hx _ _ ⟨hs.1.put d _ hdn, hm⟩
theorem WT.q {o : Oper} {v : Value} {d : Nat} (hv : Qv C l m o v) (hd : o.dst = some d) (hdn : Nat.blt d C.n = true) (hg : wants ops l o.guard = some true) (k : WT C Q ops rest ((d, v) :: l) m) : WT C Q ops (o :: rest) l m :=
  WT.ev (α := Unit) (φ := fun _ => True) (v := fun _ => v) (m' := fun _ => m) (fun ev hev w hw => ⟨(), w, trivial, hv ev hev w hw, hw⟩) hd hdn hg (fun _ _ => k)
theorem WT.nil (k : WE C Q .normal l m) : WT C Q ops [] l m := by
  intro a w hs
  unfold WE at k
  exact k a w hs
end
end Go.Gp

/- append(b, s...) of a string onto bytes that the call owns: where the new slice lies; the rule of the walk. -/
set_option linter.unusedVariables false
namespace Go.Gp
open Go.RowKit Go.Lib
theorem run_append_str_at {P : Program} (w : World) (base : Nat) (t u ty e : TypeId) (i : TypeInfo) (ht : P.underlying t = some (.slice e)) (hu : P.underlying u = some .string) (hi : P.info? e = some i) (hz : i.zero = some (.int .u8 0)) (hsize : i.size = 1) (hby : i.bytes = 1)
    (v : Value) (n : Nat) (xs : List Value) (hown : w.ownsRow base e 1 v n xs) (s : ByteArray) (hbytes : n + s.size ≤ 140737488355328) (hbase : base ≤ w.heap.size) :
    ∃ v' w', (Builtin.append_ #[t, u] ty #[v, .string s]).run P w = .ok v' w' ∧ w'.ownsRow base e 1 v' (n + s.size) (xs ++ strCells s) ∧ w.grownBy w' v.ownBlock ∧ (v'.ownBlock = v.ownBlock ∨ v'.ownBlock = some w.heap.size) := by
  have h63 : n + s.size ≤ maxLen := by unfold maxLen; omega
  have hxl : xs.length = n := by simpa using hown.1
  obtain ⟨v', w', hrun, h1, h2, h3⟩ := run_append_own_string (P := P) w base t u ty e i ht hu hi hz hsize hby v n xs hown s h63 hbytes hbase
  refine ⟨v', w', hrun, h1, h2, ?_⟩
  rcases hown.2 with ⟨rfl, rfl⟩ | ⟨g, cap, cur, rfl, hbg, hg, hnc, hcm, hcs, htake⟩
  · by_cases hm : s.size = 0
    · left
      rw [h3.2 ⟨rfl, hm⟩]
    · right
      have hr := run_append_nil_string (P := P) w t u ty e i (.int .u8 0) ht hu hi hz s (by omega) (by unfold maxLen at h63; omega) (by rw [hby]; omega)
      rw [hr] at hrun
      injection hrun with q1 q2
      rw [← q1]
      rfl
  · have hcs' : cur.size = cap := by simpa using hcs
    by_cases hroom : n + s.size ≤ cap
    · left
      have hr := run_append_room_string (P := P) w t u ty e i ht hu hi hsize g n cap cur hg s hroom (by omega)
      rw [hr] at hrun
      injection hrun with q1 q2
      rw [← q1]
      rfl
    · right
      have holds : ∀ j u, xs[j]? = some u → w.cell? ((⟨g, 0, none⟩ : Addr).add j) = some u := hown.cells (g := g) rfl
      have hr := run_append_grow_string (P := P) w t u ty e i (.int .u8 0) ht hu hi hz ⟨g, 0, none⟩ n cap xs (by rw [hsize]; simpa using hxl) holds s (by omega) (by unfold maxLen at h63; omega) (by rw [hby]; exact growslice_fits (by omega) (by omega))
      rw [hr] at hrun
      injection hrun with q1 q2
      rw [← q1]
      rfl
section
variable {C : Cx} {Q : Po} {l : List (Nat × Value)} {m : List Res} {ops : Array Oper} {rest : List Oper} {ty : TypeId} {pos : String} {af : Array Edge} {g : Option (Nat × Bool)} {b : Bool} {d : Nat} {v u : Value} {x y z : Operand} {t t' t2 : TypeId}
theorem Ev.appendStr {s x : Operand} {e : TypeId} {inf : TypeInfo} {A : Option Addr} {c n i : Nat} {xs : List Value} {dd : Option Nat} {bs : ByteArray}
    (ht : C.P.underlying t = some (.slice e)) (hu : C.P.underlying t' = some .string) (hi : C.P.info? e = some inf) (hz : inf.zero = some (.int .u8 0)) (hsz : inf.size = 1) (hby : inf.bytes = 1)
    (hs : opv l s = some (.slice A n c)) (hx : opv l x = some (.string bs)) (hm : m[i]? = some (.own A c n xs e 1)) (hbb : n + bs.size ≤ 140737488355328) :
    Ev (α := Option Addr × Nat) C l m ⟨dd, .call { callee := .builtin .append, args := #[s, x], argTypes := #[t, t'] }, ty, pos, af, g⟩ (fun _ => True) (fun p => .slice p.1 (n + bs.size) p.2) (fun p => m.set i (.own p.1 p.2 (n + bs.size) (xs ++ strCells bs) e 1)) := fun ev hev w hw => by
  have hlt : i < m.length := (List.getElem?_eq_some_iff.1 hm).1
  have hm' : (m ++ C.m0)[i]? = some (.own A c n xs e 1) := by rw [List.getElem?_append_left hlt]; exact hm
  have hown : w.ownsRow C.w0.heap.size e 1 (.slice A n c) n xs := hw.all i _ hm'
  obtain ⟨v', w', hrun, h2, h3, h5⟩ := run_append_str_at (P := C.P) w C.w0.heap.size t t' ty e inf ht hu hi hz hsz hby (.slice A n c) n xs hown bs hbb hw.bnd
  have hform : ∃ p : Option Addr × Nat, v' = .slice p.1 (n + bs.size) p.2 := by
    rcases h2.2 with ⟨h, h'⟩ | ⟨g, cap, cur, h, _⟩
    · exact ⟨(none, 0), by rw [h, h']⟩
    · exact ⟨(some ⟨g, 0, none⟩, cap), h⟩
  obtain ⟨p, rfl⟩ := hform
  have hblk : ∀ (q : Option Addr) (u c : Nat), Value.ownBlock (.slice q u c) = q.map (·.block) := by intro q u c; cases q <;> rfl
  refine ⟨p, w', trivial, ?_, ?_⟩
  · simp [execOp, resolve, invoke, builtin, hev s _ hs, hev x _ hx, hrun]
  · rw [← List.set_append_left _ _ hlt]
    refine hw.upd hm' (by rw [hblk] at h3; exact h3) h2 ?_
    intro g hg
    rw [hblk, hblk] at h5
    have hg' : p.1.map (·.block) = some g := hg
    rcases h5 with h5 | h5
    · left; show A.map (·.block) = some g; rw [← h5]; exact hg'
    · right
      rw [h5] at hg'
      have := Option.some.inj hg'
      omega
theorem strCells_bytes (s : ByteArray) : strCells s = s.data.toList.map fun b => Value.int .u8 b.toNat := rfl
/-- Bytes and a string's bytes. -/
theorem r_as2 (i : Nat) {xs : List UInt8} {s' : Operand} {e : TypeId} {A : Option Addr} {c : Nat} {bs : ByteArray} (ht : C.P.underlying t = some (.slice e)) (hu : C.P.underlying t' = some .string) (hinf : (C.P.info? e).map (fun i => (i.zero, i.size, i.bytes)) = some (some (.int .u8 0), 1, 1))
    (hs : opv l s' = some (.slice A xs.length c)) (hx : opv l x = some (.string bs)) (hm : m[i]? = some (.own A c xs.length (xs.map fun b => .int .u8 b.toNat) e 1)) (hlen : xs.length + bs.size ≤ 140737488355328) (h : okk ops l g d C.n = true)
    (cc : ∀ p : Option Addr × Nat, WX false C Q ops rest ((d, .slice p.1 (xs ++ bs.data.toList).length p.2) :: l) (m.set i (.own p.1 p.2 (xs ++ bs.data.toList).length ((xs ++ bs.data.toList).map fun b => .int .u8 b.toNat) e 1))) :
    WX false C Q ops (⟨some d, .call { callee := .builtin .append, args := #[s', x], argTypes := #[t, t'] }, ty, pos, af, g⟩ :: rest) l m := by
  cases hq : C.P.info? e with
  | none => simp [hq] at hinf
  | some inf =>
    have h3 : inf.zero = some (.int .u8 0) ∧ inf.size = 1 ∧ inf.bytes = 1 := by simpa [hq] using hinf
    refine WX.ev (Ev.appendStr ht hu hq h3.1 h3.2.1 h3.2.2 hs hx hm hlen) rfl (okk_1 h) (okk_2 h) rfl (fun p _ => ?_)
    have := cc p
    have e1 : (xs ++ bs.data.toList).length = xs.length + bs.size := by rw [List.length_append, Array.length_toList]; rfl
    rw [e1, List.map_append, ← strCells_bytes] at this
    exact this
end
end Go.Gp

/- strings.Builder: the contracts of its methods, for a builder that the call has made. -/
namespace Go.Proofs.YtkggplnigjlegaaGreatDoor
open Go.RowKit Go.Gp

/-- Bytes as cells. -/
abbrev bys (l : List UInt8) : List Value := l.map fun b => .int .u8 b.toNat
/-- What a builder's first field holds: nothing, or itself. -/
abbrev selfV (u : Bool) (g : Nat) : Value := bif u then .pointer (some ⟨g, 0, none⟩) else .pointer none
abbrev BB (u : Bool) (g : Nat) (p : Option Addr × Nat) (l : List UInt8) : Res := .blk g [selfV u g, .slice p.1 l.length p.2] 77
abbrev OwnB (p : Option Addr × Nat) (l : List UInt8) : Res := .own p.1 p.2 l.length (bys l) 5 1

theorem x_noEsc (a : Addr) (w : World) : (callFunc 107 #[.pointer (some a)]).run Tryz.prog w = .ok (.value (.pointer (some a))) w := by kernel_rfl
theorem infoB : ∃ j, Tryz.prog.info? 77 = some j ∧ j.size = 2 := by
  have h : (Tryz.prog.info? 77).map (·.size) = some 2 := by kernel_rfl
  cases hq : Tryz.prog.info? 77 with
  | none => rw [hq] at h; cases h
  | some j => exact ⟨j, rfl, by simpa [hq] using h⟩
set_option maxRecDepth 100000 in
theorem copyCheck_spec (u : Bool) (g : Nat) (s : Value) (w0 : World) (m0 : List Res) :
    Ct (α := Unit) Tryz.prog 76 [.pointer (some ⟨g, 0, none⟩)] w0 [.blk g [selfV u g, s] 77] m0 (fun _ => True) (fun _ => .tuple #[]) (fun _ => [.blk g [selfV true g, s] 77]) := by
  obtain ⟨jB, hj, hj2⟩ := infoB
  refine Ct.of Tryz.func76 rfl (by kernel_rfl) rfl ?_
  cases u
  · (refine c_sq fun k9 h9 => c_rg <| r_mv rfl rfl <| r_nc rfl rfl <| r_fa 0 rfl (fun _ => by kernel_rfl) rfl <| r_lb 0 Tryz.underlying74 rfl rfl rfl rfl rfl ?_; rotate_left)
    refine r_bk (.bool true) rfl rfl (fun _ => by kernel_rfl) rfl ?_
    (refine r_nx h9 <| c_cT rfl <| c_rg <| r_mv rfl rfl <| r_mv rfl rfl ?_; rotate_left)
    refine r_cm rfl (fun w hw => Go.Lib.run_to_unsafe w ⟨g, 0, none⟩ Tryz.underlying74 Tryz.underlying128 hj (by omega) (hw.shape 0 rfl) Nat.zero_lt_two) rfl ?_
    (rotate_left)
    refine r_xv rfl rfl (fun w => x_noEsc ⟨g, 0, none⟩ w) rfl ?_
    refine r_cm rfl (fun w hw => Go.Lib.run_from_unsafe w ⟨g, 0, none⟩ Tryz.underlying128 Tryz.underlying74 hj (hw.shape 0 rfl) (by kernel_rfl)) rfl ?_
    (refine r_nc rfl rfl <| r_fa 0 rfl (fun _ => by kernel_rfl) rfl <| r_st 0 (by kernel_rfl) rfl rfl rfl rfl rfl rfl rfl <| r_nl ?_; rotate_left)
    exact WE.end0 () rfl rfl rfl trivial Mem.keep
  · (refine c_sq fun k9 h9 => c_rg <| r_mv rfl rfl <| r_nc rfl rfl <| r_fa 0 rfl (fun _ => by kernel_rfl) rfl <| r_lb 0 Tryz.underlying74 rfl rfl rfl rfl rfl ?_; rotate_left)
    refine r_bk (.bool false) rfl rfl (fun _ => by kernel_rfl) rfl ?_
    (refine r_nx h9 <| c_cF rfl <| c_sq fun k11 h11 => c_rg <| r_mv rfl rfl <| r_nc rfl rfl <| r_fa 0 rfl (fun _ => by kernel_rfl) rfl <| r_lb 0 Tryz.underlying74 rfl rfl rfl rfl rfl <| r_mv rfl rfl ?_; rotate_left)
    refine r_bi (s := .bool false) rfl rfl (fun _ _ => rfl) (fun w _ => Go.Lib.run_neq_ptr_same w ⟨g, 0, none⟩ Tryz.underlying74 hj) rfl ?_
    (refine r_nx h11 <| c_cF rfl <| c_sk ?_; rotate_left)
    exact WE.end0 () rfl rfl rfl trivial Mem.keep

set_option maxRecDepth 100000 in
theorem writeByte_spec (u : Bool) (g : Nat) (p : Option Addr × Nat) (l : List UInt8) (c : UInt8) (hn : l.length ≤ 1000000000000) (w0 : World) (m0 : List Res) :
    Ct (α := Option Addr × Nat) Tryz.prog 97 [.pointer (some ⟨g, 0, none⟩), .int .u8 c.toNat] w0 [BB u g p l, OwnB p l] m0 (fun _ => True) (fun _ => .nilIface) (fun q => [BB true g q (l ++ [c]), OwnB q (l ++ [c])]) := by
  refine Ct.of Tryz.func97 rfl (by kernel_rfl) rfl ?_
  (refine c_sq fun k9 h9 => c_rg <| r_as rfl rfl <| r_nx h9 <| c_sq fun k11 h11 => c_rg <| r_mv rfl rfl ?_; rotate_left)
  refine WX.call (m1 := [BB u g p l]) (m2 := [OwnB p l]) rfl rfl rfl (copyCheck_spec u g _ _ _) rfl rfl (fun _ _ => ?_)
  (refine r_nx h11 <| c_sq fun k15 h15 => c_rg <| r_mv rfl rfl <| r_mv rfl rfl <| r_nc rfl rfl <| r_fa 1 rfl (fun _ => by kernel_rfl) rfl <| r_lb 0 Tryz.underlying75 rfl rfl rfl rfl rfl <| r_mv rfl rfl <| r_bo Tryz.underlying75 rfl (fun _ => by kernel_rfl) rfl rfl rfl (fun _ => ?_); rotate_left)
  refine r_am (ys := [c]) 2 (z := .int .u8 0) (by_ := 1) (f := fun b : UInt8 => .int .u8 b.toNat) Tryz.underlying75 (by kernel_rfl) rfl rfl rfl rfl (Rd.own 0 rfl) rfl (fun _ => rfl) (by omega) rfl (fun q _ => ?_)
  (refine r_nc rfl rfl <| r_fa 1 rfl (fun _ => by kernel_rfl) rfl <| r_st 1 (by kernel_rfl) rfl rfl rfl rfl rfl rfl rfl <| r_nx h15 <| c_sq fun k20 h20 => c_rg <| r_as rfl rfl <| r_nx h20 <| c_rt ?_; rotate_left)
  exact WE.ret1 q rfl rfl rfl trivial (Mem.pick [1, 2] (by decide) rfl)
set_option maxRecDepth 100000 in
theorem writeString_spec (u : Bool) (g : Nat) (p : Option Addr × Nat) (l : List UInt8) (s : ByteArray) (hn : l.length + s.size ≤ 1000000000000) (w0 : World) (m0 : List Res) :
    Ct (α := Option Addr × Nat) Tryz.prog 45 [.pointer (some ⟨g, 0, none⟩), .string s] w0 [BB u g p l, OwnB p l] m0 (fun _ => True) (fun _ => .tuple #[.int .i64 s.size, .nilIface]) (fun q => [BB true g q (l ++ s.data.toList), OwnB q (l ++ s.data.toList)]) := by
  refine Ct.of Tryz.func45 rfl (by kernel_rfl) rfl ?_
  (refine c_sq fun k9 h9 => c_rg <| r_as rfl rfl <| r_as rfl rfl <| r_nx h9 <| c_sq fun k11 h11 => c_rg <| r_mv rfl rfl ?_; rotate_left)
  refine WX.call (m1 := [BB u g p l]) (m2 := [OwnB p l]) rfl rfl rfl (copyCheck_spec u g _ _ _) rfl rfl (fun _ _ => ?_)
  (refine r_nx h11 <| c_sq fun k15 h15 => c_rg <| r_mv rfl rfl <| r_mv rfl rfl <| r_nc rfl rfl <| r_fa 1 rfl (fun _ => by kernel_rfl) rfl <| r_lb 0 Tryz.underlying75 rfl rfl rfl rfl rfl <| r_mv rfl rfl ?_; rotate_left)
  refine r_as2 1 Tryz.underlying75 Tryz.underlying9 (by kernel_rfl) rfl rfl rfl (by omega) rfl (fun q => ?_)
  (refine r_nc rfl rfl <| r_fa 1 rfl (fun _ => by kernel_rfl) rfl <| r_st 0 (by kernel_rfl) rfl rfl rfl rfl rfl rfl rfl <| r_nx h15 <| c_sq fun k18 h18 => c_rg <| r_mv rfl rfl <| r_lS Tryz.underlying9 rfl rfl <| r_as rfl rfl <| r_as rfl rfl <| r_nx h18 <| c_rt ?_; rotate_left)
  exact WE.ret2 q rfl rfl rfl rfl rfl trivial (Mem.pick [0, 1] (by decide) rfl)
set_option maxRecDepth 100000 in
theorem bLen_spec (u : Bool) (g : Nat) (p : Option Addr × Nat) (l : List UInt8) (w0 : World) (m0 : List Res) :
    Ct (α := Unit) Tryz.prog 96 [.pointer (some ⟨g, 0, none⟩)] w0 [BB u g p l] m0 (fun _ => True) (fun _ => .int .i64 l.length) (fun _ => [BB u g p l]) := by
  refine Ct.of Tryz.func96 rfl (by kernel_rfl) rfl ?_
  (refine c_sq fun k7 h7 => c_rg <| r_as rfl rfl <| r_nx h7 <| c_sq fun k9 h9 => c_rg <| r_mv rfl rfl <| r_nc rfl rfl <| r_fa 1 rfl (fun _ => by kernel_rfl) rfl <| r_lb 0 Tryz.underlying75 rfl rfl rfl rfl rfl <| r_ls Tryz.underlying75 rfl rfl <| r_as rfl rfl <| r_nx h9 <| c_rt ?_; rotate_left)
  exact WE.ret1 () rfl rfl rfl trivial Mem.keep
set_option maxRecDepth 100000 in
theorem appendAscii_spec (p : Option Addr × Nat) (l : List UInt8) (c : UInt8) (hc : c.toNat < 128) (hn : l.length ≤ 1000000000000) (w0 : World) (m0 : List Res) :
    Ct (α := Option Addr × Nat) Tryz.prog 121 [.slice p.1 l.length p.2, .int .i32 c.toNat] w0 [OwnB p l] m0 (fun _ => True) (fun q => .slice q.1 (l ++ [c]).length q.2) (fun q => [OwnB q (l ++ [c])]) := by
  refine Ct.of Tryz.func121 rfl (by kernel_rfl) rfl ?_
  (refine c_sq fun k8 h8 => c_rg <| r_as rfl rfl <| r_nx h8 <| c_sq fun k10 h10 => c_sq fun k12 h12 => c_rg <| r_mv rfl rfl <| r_cv rfl (cv_int (k' := .u32) rfl Tryz.underlying145 (wu32 (by omega))) rfl <| r_leT rfl rfl rfl (by omega) <| r_nx h12 <| c_cT rfl <| c_sq fun k14 h14 => c_rg <| r_mv rfl rfl <| r_mv rfl rfl <| r_cv rfl (cv_int (k' := .u8) rfl Tryz.underlying5 (w8 (by omega))) rfl <| r_bo Tryz.underlying75 rfl (fun _ => by kernel_rfl) rfl rfl rfl (fun _ => ?_); rotate_left)
  (rotate_left)
  (rotate_left)
  refine r_am (ys := [c]) 1 (z := .int .u8 0) (by_ := 1) (f := fun b : UInt8 => .int .u8 b.toNat) Tryz.underlying75 (by kernel_rfl) rfl rfl rfl rfl (Rd.own 0 rfl) rfl (fun _ => rfl) (by omega) rfl (fun q _ => ?_)
  (refine r_as rfl rfl <| r_nx h14 <| c_rt <| WE.then_r ?_; rotate_left)
  exact WE.ret1 q rfl rfl rfl trivial (Mem.pick [1] (by decide) rfl)
set_option maxRecDepth 100000 in
theorem writeAscii_spec (u : Bool) (g : Nat) (p : Option Addr × Nat) (l : List UInt8) (c : UInt8) (hc : c.toNat < 128) (hn : l.length ≤ 1000000000000) (w0 : World) (m0 : List Res) :
    Ct (α := Option Addr × Nat) Tryz.prog 95 [.pointer (some ⟨g, 0, none⟩), .int .i32 c.toNat] w0 [BB u g p l, OwnB p l] m0 (fun _ => True) (fun _ => .tuple #[.int .i64 1, .nilIface]) (fun q => [BB true g q (l ++ [c]), OwnB q (l ++ [c])]) := by
  refine Ct.of Tryz.func95 rfl (by kernel_rfl) rfl ?_
  (refine c_sq fun k10 h10 => c_rg <| r_as rfl rfl <| r_as rfl rfl <| r_nx h10 <| c_sq fun k12 h12 => c_rg <| r_mv rfl rfl ?_; rotate_left)
  refine WX.call (m1 := [BB u g p l]) (m2 := [OwnB p l]) rfl rfl rfl (copyCheck_spec u g _ _ _) rfl rfl (fun _ _ => ?_)
  (refine r_nx h12 <| c_sq fun k16 h16 => c_rg <| r_mv rfl rfl <| r_nc rfl rfl <| r_fa 1 rfl (fun _ => by kernel_rfl) rfl <| r_lb 0 Tryz.underlying75 rfl rfl rfl rfl rfl <| r_ls Tryz.underlying75 rfl rfl <| r_as rfl rfl <| r_nx h16 <| c_sq fun k18 h18 => c_rg <| r_mv rfl rfl <| r_mv rfl rfl <| r_nc rfl rfl <| r_fa 1 rfl (fun _ => by kernel_rfl) rfl <| r_lb 0 Tryz.underlying75 rfl rfl rfl rfl rfl <| r_mv rfl rfl ?_; rotate_left)
  refine WX.mem (m' := [OwnB p l, BB true g p l]) (Mem.pick [1, 0] (by decide) rfl) ?_
  refine WX.call (m1 := [OwnB p l]) (m2 := [BB true g p l]) rfl rfl rfl (appendAscii_spec p l c hc hn _ _) rfl rfl (fun q _ => ?_)
  have hsz : (((l ++ [c]).length : Nat) : Int) = l.length + 1 := by simp
  have hsub : (((l ++ [c]).length : Nat) : Int) - (l.length : Int) = 1 := by omega
  (refine r_nc rfl rfl <| r_fa 1 rfl (fun _ => by kernel_rfl) rfl <| r_st 1 (by kernel_rfl) rfl rfl rfl rfl rfl rfl rfl <| r_nx h18 <| c_sq fun k24 h24 => c_rg <| r_mv rfl rfl <| r_nc rfl rfl <| r_fa 1 rfl (fun _ => by kernel_rfl) rfl <| r_lb 1 Tryz.underlying75 rfl rfl rfl rfl rfl <| r_ls Tryz.underlying75 rfl rfl <| r_mv rfl rfl <| r_su rfl rfl rfl (wsub64 (by omega)) <| r_as rfl rfl <| r_as rfl rfl <| r_nx h24 <| c_rt ?_; rotate_left)
  exact WE.ret2 q rfl rfl rfl rfl (by rw [hsub]) trivial (Mem.pick [1, 0] (by decide) rfl)
set_option maxRecDepth 100000 in
theorem bString_spec (u : Bool) (g : Nat) (p : Option Addr × Nat) (l : List UInt8) (hn : l.length ≤ 1000000000000) (hp : l = [] → p = (none, 0)) (w0 : World) (m0 : List Res) :
    Ct (α := Unit) Tryz.prog 46 [.pointer (some ⟨g, 0, none⟩)] w0 [BB u g p l, OwnB p l] m0 (fun _ => True) (fun _ => .string ⟨l.toArray⟩) (fun _ => []) := by
  refine Ct.of Tryz.func46 rfl (by kernel_rfl) rfl ?_
  (refine c_sq fun k9 h9 => c_rg <| r_as rfl rfl <| r_nx h9 <| c_sq fun k11 h11 => ?_)
  refine WC.stail 10 rfl (by kernel_rfl) (by kernel_rfl) ?_
  refine WS.q (d := 3) (Qv.move rfl) rfl rfl rfl ?_
  refine WS.q (d := 4) (Qv.nilCheck rfl) rfl rfl rfl ?_
  refine WS.q (d := 5) (Qv.fieldAddr (b := ⟨g, 1, none⟩) rfl (fun _ => by kernel_rfl)) rfl rfl rfl ?_
  refine WS.q (d := 6) (Qv.load_blk (i := 0) Tryz.underlying75 rfl rfl rfl rfl) rfl rfl rfl ?_
  refine WS.q (d := 7) (v := .pointer p.1) (fun ev hev w hw => by
    have hown : w.ownsRow w0.heap.size 5 1 (.slice p.1 l.length p.2) l.length (bys l) := hw.all 1 _ rfl
    have hrun : (Builtin.unsafeSliceData_ #[75] 104 #[.slice p.1 l.length p.2]).run Tryz.prog w = .ok (.pointer p.1) w := by
      rcases hown.2 with ⟨h, _⟩ | ⟨g', cap, cur, h, _, _, hnc, _⟩
      · injection h with h1 h2 h3
        rw [h1]
        exact Go.Lib.run_unsafeSliceData_nil w _ _ _ _
      · injection h with h1 h2 h3
        rw [h1, h3]
        refine Go.Lib.run_unsafeSliceData_row w _ _ _ _ _ (fun h0 => ?_)
        have hl : l = [] := List.eq_nil_of_length_eq_zero (by omega)
        rw [hp hl] at h1
        cases h1
    have hx := hev (.tmp 6) (.slice p.1 l.length p.2) rfl
    simp [execOp, resolve, invoke, builtin, hx, hrun]) rfl rfl rfl ?_
  refine WS.q (d := 8) (Qv.move rfl) rfl rfl rfl ?_
  refine WS.q (d := 9) (Qv.nilCheck rfl) rfl rfl rfl ?_
  refine WS.q (d := 10) (Qv.fieldAddr (b := ⟨g, 1, none⟩) rfl (fun _ => by kernel_rfl)) rfl rfl rfl ?_
  refine WS.q (d := 11) (Qv.load_blk (i := 0) Tryz.underlying75 rfl rfl rfl rfl) rfl rfl rfl ?_
  refine WS.q (d := 12) (Qv.len_slice Tryz.underlying75 rfl) rfl rfl rfl ?_
  refine WS.nil ?_
  refine WT.ev (α := Unit) (φ := fun _ => True) (v := fun _ => .string ⟨l.toArray⟩) (m' := fun _ => []) (d := 13) (fun ev hev w hw => by
    have hown : w.ownsRow w0.heap.size 5 1 (.slice p.1 l.length p.2) l.length (bys l) := hw.all 1 _ rfl
    have hx := hev (.tmp 7) (.pointer p.1) rfl
    have hy := hev (.tmp 12) (.int .i64 l.length) rfl
    by_cases hl : l = []
    · refine ⟨(), w, trivial, ?_, Mem.drop w hw⟩
      have hrun := Go.Lib.run_unsafeString_none (P := Tryz.prog) w 104 3 9 p.1
      have hl0 : (l.length : Int) = 0 := by rw [hl]; rfl
      have hb : (⟨l.toArray⟩ : ByteArray) = .empty := by rw [hl]; rfl
      rw [hl0] at hy
      rw [hb]
      simp [execOp, resolve, invoke, builtin, hx, hy, hrun]
    · rcases hown.2 with ⟨_, h'⟩ | ⟨g', cap, cur, h, hbg, hg, hnc, hcm, hcs, ht⟩
      · exact absurd (List.eq_nil_of_length_eq_zero h') hl
      · injection h with h1 h2 h3
        have hcs' : cur.size = cap := by simpa using hcs
        have hrun := Go.Lib.run_unsafeString_row (P := Tryz.prog) w 104 3 9 5 Tryz.underlying104 (by kernel_rfl) g' cur.size (by simp [World.shape?, hg]) l hl (by omega) (by omega)
          (fun j x hj => hown.cells (g := g') (by rw [h1]; rfl) j _ (by simp [hj]))
        refine ⟨(), w.freeze ⟨g', 0, none⟩ l.length, trivial, ?_, ?_⟩
        · rw [h1] at hx
          simp [execOp, resolve, invoke, builtin, hx, hy, hrun]
        · have hw2 : Mem w0 ([OwnB p l] ++ m0) w := Mem.pick (m' := [OwnB p l]) [1] (by decide) rfl w hw
          refine Mem.eat (r := OwnB p l) hw2 ?_
          have hb : (OwnB p l).block = some g' := by show p.1.map (·.block) = some g'; rw [h1]; rfl
          rw [hb]
          unfold World.freeze
          split
          · exact ⟨rfl, rfl, rfl, Nat.le_refl _, fun _ _ _ => rfl⟩
          · exact ⟨rfl, rfl, rfl, by simp, fun k _ hk => by
              simp only [Array.getElem?_modify]
              rw [if_neg (fun e => hk (by rw [e]))]⟩) rfl rfl rfl (fun _ _ => ?_)
  refine WT.q (d := 2) (Qv.assign rfl) rfl rfl rfl ?_
  refine WT.nil ?_
  (refine WE.then_n h11 <| c_rt ?_; rotate_left)
  exact WE.ret1 () rfl rfl rfl trivial Mem.keep
end Go.Proofs.YtkggplnigjlegaaGreatDoor

/- Errors: what wraps what: the contract of fail.Wrap. -/
namespace Go.Proofs.YtkggplnigjlegaaGreatDoor
open Go.RowKit Go.Gp

/-- An error: the blocks of the calls that wrap it, the outermost one first, and the number innermost. -/
def ecv : List (Nat × ByteArray) → Int → Value
  | [], n => .iface 66 (.int .i64 n)
  | (b, _) :: _, _ => .iface 89 (.pointer (some ⟨b, 0, none⟩))
def ecm : List (Nat × ByteArray) → Int → List Res
  | [], _ => []
  | (b, s) :: r, n => .blk b [.string s, ecv r n] 91 :: ecm r n
/-- The chain can be read. -/
def EcR (w0 : World) (m : List Res) : List (Nat × ByteArray) → Int → Prop
  | [], _ => True
  | (b, s) :: r, n => Rd w0 m (some ⟨b, 0, none⟩) [.string s, ecv r n] ∧ EcR w0 m r n

theorem EcR.app {w0 : World} {m0 : List Res} {L : List (Nat × ByteArray)} {n : Int} (h : EcR w0 m0 L n) (m : List Res) : EcR w0 (m ++ m0) L n := by
  induction L with
  | nil => trivial
  | cons p r ih => exact ⟨h.1.app m, ih h.2⟩

theorem wrap_spec (s : ByteArray) (L : List (Nat × ByteArray)) (n : Int) (w0 : World) (m0 : List Res) :
    Ct (α := Nat) Tryz.prog 35 [.string s, ecv L n] w0 [] m0 (fun _ => True) (fun b => ecv ((b, s) :: L) n) (fun b => [.blk b [.string s, ecv L n] 91]) := by
  refine Ct.of Tryz.func35 rfl (by kernel_rfl) rfl ?_
  obtain ⟨T, v, he⟩ : ∃ T v, ecv L n = .iface T v := by cases L <;> exact ⟨_, _, rfl⟩
  rw [he]
  (refine c_sq fun k9 h9 => c_rg <| r_as rfl rfl <| r_nx h9 <| c_sq fun k11 h11 => c_sq fun k13 h13 => c_rg <| r_mv rfl rfl <| r_bk (.bool false) rfl rfl (fun _ => by kernel_rfl) rfl <| r_nx h13 <| c_cF rfl <| c_sk <| WE.then_n h11 <| c_sq fun k15 h15 => c_rg <| r_mv rfl rfl <| r_mv rfl rfl <| r_bd rfl (fun _ => by kernel_rfl) rfl <| r_bx rfl rfl rfl (fun _ => ?_); refine r_mi rfl (fun _ => by kernel_rfl) rfl <| r_as rfl rfl <| r_nx h15 <| c_rt ?_; rotate_left)
  rename_i b
  exact WE.ret1 b rfl rfl rfl trivial Mem.keep

theorem ecv_form (L : List (Nat × ByteArray)) (n : Int) : ∃ T v, ecv L n = .iface T v := by cases L <;> exact ⟨_, _, rfl⟩

end Go.Proofs.YtkggplnigjlegaaGreatDoor

/- puny: thresholds, the bias, numbers by digits: the contracts. -/
namespace Go.Proofs.YtkggplnigjlegaaGreatDoor
open Go.RowKit Go.Gp

def thrP (k bias : Int) : Int := min (max (k - bias) 1) 26
theorem thrP_bd (k bias : Int) : 1 ≤ thrP k bias ∧ thrP k bias ≤ 26 := by unfold thrP; omega
theorem threshold_spec (k bias : Int) (hk : 0 ≤ k ∧ k ≤ 1000000000000 ∧ 0 ≤ bias ∧ bias ≤ 1000000000000) (w0 : World) (m0 : List Res) : PureC Tryz.prog 118 [.int .i64 k, .int .i64 bias] w0 m0 (.int .i64 (thrP k bias)) := by
  refine Ct.of Tryz.func118 rfl (by kernel_rfl) rfl ?_
  (refine c_sq fun k6 h6 => c_rg <| r_as rfl rfl <| r_nx h6 <| c_sq fun k8 h8 => c_rg <| r_mv rfl rfl <| r_mv rfl rfl <| r_su rfl rfl rfl (wsub64 (by omega)) <| r_mx rfl rfl rfl <| r_mn rfl rfl rfl <| r_as rfl rfl <| r_nx h8 <| c_rt ?_; rotate_left)
  (rotate_left)
  exact WE.ret1 () rfl rfl rfl trivial Mem.drop

/-- The loop of the bias: what is left, and k. -/
def adL : Nat → Int → Int → Int × Int
  | 0, d, k => (d, k)
  | f + 1, d, k => if 455 < d then adL f (d / 35) (k + 36) else (d, k)
def adaptP (delta many : Int) (once : Bool) : Int :=
  let d0 := if once then delta / 700 else delta / 2
  let r := adL 13 (d0 + d0 / many) 0
  r.2 + 36 * r.1 / (r.1 + 38)
theorem adL_bd : ∀ (f : Nat) (d k : Int), 0 ≤ d → d < 456 * 35 ^ f → 0 ≤ (adL f d k).1 ∧ (adL f d k).1 ≤ 455 ∧ k ≤ (adL f d k).2 ∧ (adL f d k).2 ≤ k + 36 * f
  | 0, d, k, h, h2 => by
    simp only [Int.pow_zero, Int.mul_one] at h2
    simp only [adL]
    omega
  | f + 1, d, k, h, h2 => by
    rw [adL]
    split
    · have hd : d / 35 < 456 * 35 ^ f := by
        rw [Int.pow_succ] at h2
        exact Int.ediv_lt_of_lt_mul (by omega) (by rw [Int.mul_assoc]; exact h2)
      have := adL_bd f (d / 35) (k + 36) (by omega) hd
      omega
    · dsimp only
      omega
theorem adaptP_bd {delta many : Int} (h : 0 ≤ delta ∧ delta ≤ 4000000000000000000 ∧ 1 ≤ many) (once : Bool) : 0 ≤ adaptP delta many once ∧ adaptP delta many once ≤ 1000 := by
  dsimp only [adaptP]
  have hd : 0 ≤ (if once then delta / 700 else delta / 2) ∧ (if once then delta / 700 else delta / 2) ≤ 2000000000000000000 := by split <;> omega
  generalize (if once then delta / 700 else delta / 2) = d0 at hd
  have hq1 : 0 ≤ d0 / many := Int.ediv_nonneg hd.1 (by omega)
  have hq2 : d0 / many ≤ d0 := Int.ediv_le_self _ hd.1
  have := adL_bd 13 (d0 + d0 / many) 0 (by omega) (by
    have : (456 : Int) * 35 ^ 13 = 53932359308583984375000 := by decide +kernel
    omega)
  generalize adL 13 (d0 + d0 / many) 0 = r at this
  obtain ⟨d, k⟩ := r
  dsimp only at this ⊢
  have h1 : 0 ≤ 36 * d / (d + 38) := Int.ediv_nonneg (by omega) (by omega)
  have h2 : 36 * d / (d + 38) ≤ 36 := Int.ediv_le_of_le_mul (by omega) (by omega)
  omega
set_option maxRecDepth 100000 in
theorem adapt_spec (delta many : Int) (once : Bool) (h : 0 ≤ delta ∧ delta ≤ 4000000000000000000 ∧ 1 ≤ many) (w0 : World) (m0 : List Res) : PureC Tryz.prog 91 [.int .i64 delta, .int .i64 many, .bool once] w0 m0 (.int .i64 (adaptP delta many once)) := by
  have hf : (456 : Int) * 35 ^ 13 = 53932359308583984375000 := by decide +kernel
  have key : ∀ d0 : Int, 0 ≤ d0 → d0 ≤ 2000000000000000000 → adL 13 (d0 + d0 / many) 0 = adL 13 (d0 + d0 / many) 0 ∧ 0 ≤ d0 / many ∧ d0 / many ≤ d0 := fun d0 h1 h2 => ⟨rfl, Int.ediv_nonneg h1 (by omega), Int.ediv_le_self _ h1⟩
  refine Ct.of Tryz.func91 rfl (by kernel_rfl) rfl ?_
  cases once
  · obtain ⟨_, k1, k2⟩ := key (delta / 2) (by omega) (by omega)
    have eP : adaptP delta many false = (adL 13 (delta / 2 + delta / 2 / many) 0).2 + 36 * (adL 13 (delta / 2 + delta / 2 / many) 0).1 / ((adL 13 (delta / 2 + delta / 2 / many) 0).1 + 38) := rfl
    (refine c_sq fun k13 h13 => c_rg <| r_as rfl rfl <| r_nx h13 <| c_sq fun k15 h15 => c_sq fun k17 h17 => c_rg <| r_mv rfl rfl <| r_nx h17 <| c_cF rfl <| c_rg <| r_mv rfl rfl <| r_qu rfl rfl rfl (by omega) (wquo64 (by omega)) <| r_as rfl rfl <| r_nx h15 <| c_sq fun k19 h19 => c_rg <| r_mv rfl rfl <| r_mv rfl rfl <| r_mv rfl rfl <| r_qu rfl rfl rfl (by omega) (wquo64 (by omega)) <| r_ad rfl rfl rfl (wadd64 (by omega)) <| r_as rfl rfl <| r_nx h19 <| c_sq fun k21 h21 => c_rg <| r_as rfl rfl <| r_nx h21 <| c_sq fun k23 h23 => c_bl ?_; rotate_left)
    refine WC.loop (α := Nat × Int × Int) (fun x => [(0, .int .i64 x.2.1), (7, .int .i64 x.2.2)]) (fun _ => [])
      (fun x => adL x.1 x.2.1 x.2.2 = adL 13 (delta / 2 + delta / 2 / many) 0 ∧ (0 ≤ x.2.1 ∧ x.2.1 ≤ 4000000000000000000) ∧ x.2.1 < 456 * 35 ^ x.1 ∧ 0 ≤ x.2.2 ∧ x.2.2 + 36 * x.1 ≤ 468) (fun x => x.1) (13, delta / 2 + delta / 2 / many, 0) ⟨rfl, by dsimp only; omega, by dsimp only; omega, by dsimp only; omega, by dsimp only; omega⟩ ⟨rfl, rfl, trivial⟩ Mem.keep ?_
    rintro ⟨f, d, k⟩ ⟨e, h1, h2, h3, h4⟩
    dsimp only at e h1 h2 h3 h4 ⊢
    by_cases hlt : 455 < d
    · cases f with
      | zero => simp only [Int.pow_zero, Int.mul_one] at h2; omega
      | succ f =>
        have h5 : d / 35 < 456 * 35 ^ f := by
          rw [Int.pow_succ] at h2
          exact Int.ediv_lt_of_lt_mul (by omega) (by rw [Int.mul_assoc]; exact h2)
        rw [adL, if_pos hlt] at e
        (refine c_sq fun k41 h41 => c_sq fun k43 h43 => c_rg <| r_mv rfl rfl <| r_gtT rfl rfl rfl (by omega) <| r_nx h43 <| c_cT rfl <| c_sk <| WE.then_n h41 <| c_bl <| c_sq fun k45 h45 => c_rg <| r_mv rfl rfl <| r_qu rfl rfl rfl (by omega) (wquo64 (by omega)) <| r_as rfl rfl <| r_nx h45 <| c_rg <| r_mv rfl rfl <| r_ad rfl rfl rfl (wadd64 (by omega)) <| r_as rfl rfl <| r_nl <| WE.blk_n ?_; rotate_left)
        exact WE.back (f, d / 35, k + 36) ⟨e, by dsimp only; omega, h5, by dsimp only; omega, by dsimp only; omega⟩ (by simp) ⟨rfl, rfl, trivial⟩ Mem.keep
    · have e' : adL f d k = (d, k) := by cases f with | zero => rfl | succ f => rw [adL, if_neg hlt]
      have q1 : 0 ≤ 36 * d / (d + 38) := Int.ediv_nonneg (by omega) (by omega)
      have q2 : 36 * d / (d + 38) ≤ 36 := Int.ediv_le_of_le_mul (by omega) (by omega)
      (refine c_sq fun k37 h37 => c_sq fun k39 h39 => c_rg <| r_mv rfl rfl <| r_gtF rfl rfl rfl (by omega) <| r_nx h39 <| c_cF rfl <| c_ex <| WE.then_x <| WE.then_x <| WE.blk_x <| WE.then_n h23 <| c_sq fun k41 h41 => c_rg <| r_mv rfl rfl <| r_mv rfl rfl <| r_mu rfl rfl rfl (wmul64 (by omega)) <| r_mv rfl rfl <| r_ad rfl rfl rfl (wadd64 (by omega)) <| r_qu rfl rfl rfl (by omega) (wquo64 (by omega)) <| r_ad rfl rfl rfl (wadd64 (by omega)) <| r_as rfl rfl <| r_nx h41 <| c_rt ?_; rotate_left)
      exact WE.ret1 () rfl rfl (by rw [eP, ← e, e']; rfl) trivial Mem.drop
  · obtain ⟨_, k1, k2⟩ := key (delta / 700) (by omega) (by omega)
    have eP : adaptP delta many true = (adL 13 (delta / 700 + delta / 700 / many) 0).2 + 36 * (adL 13 (delta / 700 + delta / 700 / many) 0).1 / ((adL 13 (delta / 700 + delta / 700 / many) 0).1 + 38) := rfl
    (refine c_sq fun k13 h13 => c_rg <| r_as rfl rfl <| r_nx h13 <| c_sq fun k15 h15 => c_sq fun k17 h17 => c_rg <| r_mv rfl rfl <| r_nx h17 <| c_cT rfl <| c_rg <| r_mv rfl rfl <| r_qu rfl rfl rfl (by omega) (wquo64 (by omega)) <| r_as rfl rfl <| r_nx h15 <| c_sq fun k19 h19 => c_rg <| r_mv rfl rfl <| r_mv rfl rfl <| r_mv rfl rfl <| r_qu rfl rfl rfl (by omega) (wquo64 (by omega)) <| r_ad rfl rfl rfl (wadd64 (by omega)) <| r_as rfl rfl <| r_nx h19 <| c_sq fun k21 h21 => c_rg <| r_as rfl rfl <| r_nx h21 <| c_sq fun k23 h23 => c_bl ?_; rotate_left)
    refine WC.loop (α := Nat × Int × Int) (fun x => [(0, .int .i64 x.2.1), (7, .int .i64 x.2.2)]) (fun _ => [])
      (fun x => adL x.1 x.2.1 x.2.2 = adL 13 (delta / 700 + delta / 700 / many) 0 ∧ (0 ≤ x.2.1 ∧ x.2.1 ≤ 4000000000000000000) ∧ x.2.1 < 456 * 35 ^ x.1 ∧ 0 ≤ x.2.2 ∧ x.2.2 + 36 * x.1 ≤ 468) (fun x => x.1) (13, delta / 700 + delta / 700 / many, 0) ⟨rfl, by dsimp only; omega, by dsimp only; omega, by dsimp only; omega, by dsimp only; omega⟩ ⟨rfl, rfl, trivial⟩ Mem.keep ?_
    rintro ⟨f, d, k⟩ ⟨e, h1, h2, h3, h4⟩
    dsimp only at e h1 h2 h3 h4 ⊢
    by_cases hlt : 455 < d
    · cases f with
      | zero => simp only [Int.pow_zero, Int.mul_one] at h2; omega
      | succ f =>
        have h5 : d / 35 < 456 * 35 ^ f := by
          rw [Int.pow_succ] at h2
          exact Int.ediv_lt_of_lt_mul (by omega) (by rw [Int.mul_assoc]; exact h2)
        rw [adL, if_pos hlt] at e
        (refine c_sq fun k41 h41 => c_sq fun k43 h43 => c_rg <| r_mv rfl rfl <| r_gtT rfl rfl rfl (by omega) <| r_nx h43 <| c_cT rfl <| c_sk <| WE.then_n h41 <| c_bl <| c_sq fun k45 h45 => c_rg <| r_mv rfl rfl <| r_qu rfl rfl rfl (by omega) (wquo64 (by omega)) <| r_as rfl rfl <| r_nx h45 <| c_rg <| r_mv rfl rfl <| r_ad rfl rfl rfl (wadd64 (by omega)) <| r_as rfl rfl <| r_nl <| WE.blk_n ?_; rotate_left)
        exact WE.back (f, d / 35, k + 36) ⟨e, by dsimp only; omega, h5, by dsimp only; omega, by dsimp only; omega⟩ (by simp) ⟨rfl, rfl, trivial⟩ Mem.keep
    · have e' : adL f d k = (d, k) := by cases f with | zero => rfl | succ f => rw [adL, if_neg hlt]
      have q1 : 0 ≤ 36 * d / (d + 38) := Int.ediv_nonneg (by omega) (by omega)
      have q2 : 36 * d / (d + 38) ≤ 36 := Int.ediv_le_of_le_mul (by omega) (by omega)
      (refine c_sq fun k37 h37 => c_sq fun k39 h39 => c_rg <| r_mv rfl rfl <| r_gtF rfl rfl rfl (by omega) <| r_nx h39 <| c_cF rfl <| c_ex <| WE.then_x <| WE.then_x <| WE.blk_x <| WE.then_n h23 <| c_sq fun k41 h41 => c_rg <| r_mv rfl rfl <| r_mv rfl rfl <| r_mu rfl rfl rfl (wmul64 (by omega)) <| r_mv rfl rfl <| r_ad rfl rfl rfl (wadd64 (by omega)) <| r_qu rfl rfl rfl (by omega) (wquo64 (by omega)) <| r_ad rfl rfl rfl (wadd64 (by omega)) <| r_as rfl rfl <| r_nx h41 <| c_rt ?_; rotate_left)
      exact WE.ret1 () rfl rfl (by rw [eP, ← e, e']; rfl) trivial Mem.drop
end Go.Proofs.YtkggplnigjlegaaGreatDoor

/- puny: a number by digits; the error of the layer: the contracts. -/
namespace Go.Proofs.YtkggplnigjlegaaGreatDoor
open Go.RowKit Go.Gp

def digitsB : ByteArray := ⟨#[97, 98, 99, 100, 101, 102, 103, 104, 105, 106, 107, 108, 109, 110, 111, 112, 113, 114, 115, 116, 117, 118, 119, 120, 121, 122, 48, 49, 50, 51, 52, 53, 54, 55, 56, 57]⟩
def dig (n : Int) : UInt8 := digitsB.data.getD n.toNat 0
theorem dig_at {n : Int} (h : 0 ≤ n) (h2 : n < 36) : digitsB.data[n.toNat]? = some (dig n) := by
  have : n.toNat < digitsB.data.size := by show n.toNat < 36; omega
  unfold dig
  rw [Array.getD_eq_getD_getElem?, Array.getElem?_eq_getElem this]
  rfl
/-- A number by digits. -/
def numL (bias : Int) : Nat → Int → Int → List UInt8
  | 0, _, _ => []
  | f + 1, q, k => if q < thrP k bias then [dig q] else dig (thrP k bias + (q - thrP k bias) % (36 - thrP k bias)) :: numL bias f ((q - thrP k bias) / (36 - thrP k bias)) (k + 36)
def numP (q bias : Int) : List UInt8 := numL bias 20 q 36
theorem numL_len (bias : Int) : ∀ (f : Nat) (q k : Int), (numL bias f q k).length ≤ f
  | 0, _, _ => by simp [numL]
  | f + 1, q, k => by
    rw [numL]
    split
    · simp
    · have := numL_len bias f ((q - thrP k bias) / (36 - thrP k bias)) (k + 36)
      simp; omega
def strOf (l : List UInt8) : ByteArray := ⟨l.toArray⟩
set_option maxRecDepth 100000 in
theorem number_spec (q bias : Int) (hq : 0 ≤ q ∧ q ≤ 4000000000000000000) (hb : 0 ≤ bias ∧ bias ≤ 1000) (w0 : World) (m0 : List Res) : PureC Tryz.prog 98 [.int .i64 q, .int .i64 bias] w0 m0 (.string (strOf (numP q bias))) := by
  have hf : (10 : Int) ^ 19 = 10000000000000000000 := by decide +kernel
  refine Ct.of Tryz.func98 rfl (by kernel_rfl) rfl ?_
  (refine c_sq fun k8 h8 => c_rg <| r_as rfl rfl <| r_nx h8 <| c_sq fun k10 h10 => c_rg <| r_al (z := .agg #[.pointer none, .slice none 0 0]) (cs := [.pointer none, .slice none 0 0]) (fun _ => by kernel_rfl) rfl rfl (fun _ => ?_); refine r_nx h10 <| c_sq fun k13 h13 => c_rg <| r_as rfl rfl <| r_nx h13 <| c_bl ?_; rotate_left)
  rename_i g
  refine WC.loop (α := Nat × Int × Int × List UInt8 × Bool × (Option Addr × Nat)) (fun x => [(0, .int .i64 x.2.1), (1, .int .i64 bias), (5, .pointer (some ⟨g, 0, none⟩)), (6, .int .i64 x.2.2.1)])
    (fun x => [BB x.2.2.2.2.1 g x.2.2.2.2.2 x.2.2.2.1, OwnB x.2.2.2.2.2 x.2.2.2.1])
    (fun x => x.2.2.2.1 ++ numL bias (x.1 + 1) x.2.1 x.2.2.1 = numP q bias ∧ (0 ≤ x.2.1 ∧ x.2.1 ≤ 4000000000000000000) ∧ x.2.1 < 10 ^ x.1 ∧ (0 ≤ x.2.2.1 ∧ x.2.2.1 + 36 * x.1 ≤ 720) ∧ x.2.2.2.1.length + x.1 ≤ 19) (fun x => x.1)
    (19, q, 36, [], false, (none, 0)) ⟨rfl, by dsimp only; omega, by dsimp only; omega, by dsimp only; omega, by simp⟩ ⟨rfl, rfl, rfl, rfl, trivial⟩ (fun w hw => Mem.pick (m' := [BB false g (none, 0) [], OwnB (none, 0) []]) [1, 0] (by decide) rfl w (Mem.addNil _ _ w hw)) ?_
  rintro ⟨f, q1, k, acc, u, p⟩ ⟨e, h1, h2, h3, h4⟩
  dsimp only at e h1 h2 h3 h4 ⊢
  have ht := thrP_bd k bias
  (refine c_sq fun k27 h27 => c_bl <| c_sq fun k29 h29 => c_rg <| r_mv rfl rfl <| r_mv rfl rfl ?_; rotate_left)
  refine WX.pure rfl rfl (threshold_spec k bias (by omega) _ _) rfl rfl ?_
  by_cases hlt : q1 < thrP k bias
  · (refine r_as rfl rfl <| r_nx h29 <| c_sq fun k32 h32 => c_sq fun k34 h34 => c_rg <| r_mv rfl rfl <| r_mv rfl rfl <| r_ltT rfl rfl rfl (by omega) <| r_nx h34 <| c_cT rfl <| c_sq fun k36 h36 => c_rg <| r_mv rfl rfl ?_; rotate_left)
    refine r_iS (v := dig q1) Tryz.underlying9 rfl rfl rfl (by omega) (dig_at (by omega) (by omega)) ?_
    refine WX.call (m1 := [BB u g p acc, OwnB p acc]) (m2 := []) rfl rfl rfl (writeByte_spec u g p acc (dig q1) (by omega) _ _) rfl rfl (fun p2 _ => ?_)
    (refine r_nx h36 <| c_sq fun k40 h40 => c_rg ?_; rotate_left)
    refine WX.call (m1 := [BB true g p2 (acc ++ [dig q1]), OwnB p2 (acc ++ [dig q1])]) (m2 := []) rfl rfl rfl (bString_spec true g p2 (acc ++ [dig q1]) (by simp; omega) (fun h => by simp at h) _ _) rfl rfl (fun _ _ => ?_)
    (refine r_as rfl rfl <| r_nx h40 <| c_rt <| WE.then_r <| WE.blk_r <| WE.then_r <| WE.then_r <| WE.blk_r ?_; rotate_left)
    exact WE.ret1 () rfl rfl (by rw [← e, numL, if_pos hlt]; rfl) trivial Mem.keep
  · cases f with
    | zero => simp only [Int.pow_zero] at h2; omega
    | succ f =>
      have r1 : 0 ≤ (q1 - thrP k bias) % (36 - thrP k bias) := Int.emod_nonneg _ (by omega)
      have r2 : (q1 - thrP k bias) % (36 - thrP k bias) < 36 - thrP k bias := Int.emod_lt_of_pos _ (by omega)
      have r3 : 0 ≤ (q1 - thrP k bias) / (36 - thrP k bias) := Int.ediv_nonneg (by omega) (by omega)
      have r4 : (q1 - thrP k bias) / (36 - thrP k bias) < 10 ^ f := by
        rw [Int.pow_succ] at h2
        refine Int.ediv_lt_of_lt_mul (by omega) ?_
        have h0 : (0 : Int) < 10 ^ f := Int.pow_pos (by decide)
        have : 10 ^ f * 10 ≤ 10 ^ f * (36 - thrP k bias) := Int.mul_le_mul_of_nonneg_left (by omega) (by omega)
        omega
      have r5 : (q1 - thrP k bias) / (36 - thrP k bias) ≤ q1 - thrP k bias := Int.ediv_le_self _ (by omega)
      (refine r_as rfl rfl <| r_nx h29 <| c_sq fun k44 h44 => c_sq fun k46 h46 => c_rg <| r_mv rfl rfl <| r_mv rfl rfl <| r_ltF rfl rfl rfl (by omega) <| r_nx h46 <| c_cF rfl <| c_sk <| WE.then_n h44 <| c_sq fun k48 h48 => c_rg <| r_mv rfl rfl <| r_mv rfl rfl <| r_mv rfl rfl <| r_su rfl rfl rfl (wsub64 (by omega)) <| r_mv rfl rfl <| r_su rfl rfl rfl (wsub64 (by omega)) <| r_re rfl rfl rfl (by omega) (wrem (by omega)) <| r_ad rfl rfl rfl (wadd64 (by omega)) ?_; rotate_left)
      refine r_iS (v := dig (thrP k bias + (q1 - thrP k bias) % (36 - thrP k bias))) Tryz.underlying9 rfl rfl rfl (by omega) (dig_at (by omega) (by omega)) ?_
      refine WX.call (m1 := [BB u g p acc, OwnB p acc]) (m2 := []) rfl rfl rfl (writeByte_spec u g p acc _ (by omega) _ _) rfl rfl (fun p2 _ => ?_)
      (refine r_nx h48 <| c_rg <| r_mv rfl rfl <| r_mv rfl rfl <| r_su rfl rfl rfl (wsub64 (by omega)) <| r_mv rfl rfl <| r_su rfl rfl rfl (wsub64 (by omega)) <| r_qu rfl rfl rfl (by omega) (wquo64 (by omega)) <| r_as rfl rfl <| r_nl <| WE.blk_n <| WE.then_n h27 <| c_rg <| r_mv rfl rfl <| r_ad rfl rfl rfl (wadd64 (by omega)) <| r_as rfl rfl <| r_nl ?_; rotate_left)
      exact WE.back (f, (q1 - thrP k bias) / (36 - thrP k bias), k + 36, acc ++ [dig (thrP k bias + (q1 - thrP k bias) % (36 - thrP k bias))], true, p2) ⟨by
        dsimp only
        rw [numL, if_neg hlt] at e
        rw [List.append_assoc]
        exact e, by dsimp only; omega, r4, by dsimp only; omega, by simp; omega⟩ (by dsimp only; omega) ⟨rfl, rfl, rfl, rfl, trivial⟩ Mem.keep
end Go.Proofs.YtkggplnigjlegaaGreatDoor

/- puny: a number with which a text begins: the contracts of strings.IndexByte, strings.LastIndexByte and puny.read. -/
namespace Go.Proofs.YtkggplnigjlegaaGreatDoor
open Go.RowKit Go.Gp

/-- A digit's number, or -1. -/
def valD (c : UInt8) : Int := Go.Lib.indexByte digitsB.data.toList c
theorem valD_bd (c : UInt8) : -1 ≤ valD c ∧ valD c ≤ 35 := by
  have h : ∀ n : Fin 256, -1 ≤ valD (UInt8.ofNat n.1) ∧ valD (UInt8.ofNat n.1) ≤ 35 := by decide +kernel
  have := h ⟨c.toNat, c.toNat_lt⟩
  simpa using this
theorem x_idx (s : ByteArray) (c : UInt8) (w : World) : (callFunc 127 #[.string s, .int .u8 c.toNat]).run Tryz.prog w = .ok (.value (.int .i64 (Go.Lib.indexByte s.data.toList c))) w := by
  rw [run_callFunc_extern (e := Extern.BytealgIndexByte.indexByte) Tryz.func127 (by kernel_rfl) (by kernel_rfl) (by kernel_rfl) (by kernel_rfl), Go.Lib.run_indexByteString]
  simp
theorem idx0_spec (s : ByteArray) (c : UInt8) (w0 : World) (m0 : List Res) : PureC Tryz.prog 110 [.string s, .int .u8 c.toNat] w0 m0 (.int .i64 (Go.Lib.indexByte s.data.toList c)) := by
  refine Ct.of Tryz.func110 rfl (by kernel_rfl) rfl ?_
  (refine c_sq fun k5 h5 => c_rg <| r_as rfl rfl <| r_nx h5 <| c_sq fun k7 h7 => c_rg <| r_mv rfl rfl <| r_mv rfl rfl ?_; rotate_left)
  refine r_xv rfl rfl (fun w => x_idx s c w) rfl ?_
  (refine r_as rfl rfl <| r_nx h7 <| c_rt ?_; rotate_left)
  exact WE.ret1 () rfl rfl rfl trivial Mem.drop
theorem idx_spec (s : ByteArray) (c : UInt8) (w0 : World) (m0 : List Res) : PureC Tryz.prog 117 [.string s, .int .u8 c.toNat] w0 m0 (.int .i64 (Go.Lib.indexByte s.data.toList c)) := by
  refine Ct.of Tryz.func117 rfl (by kernel_rfl) rfl ?_
  (refine c_sq fun k5 h5 => c_rg <| r_as rfl rfl <| r_nx h5 <| c_sq fun k7 h7 => c_rg <| r_mv rfl rfl <| r_mv rfl rfl ?_; rotate_left)
  refine WX.pure rfl rfl (idx0_spec s c _ _) rfl rfl ?_
  (refine r_as rfl rfl <| r_nx h7 <| c_rt ?_; rotate_left)
  exact WE.ret1 () rfl rfl rfl trivial Mem.drop
theorem byte_at (s : ByteArray) {k : Nat} (h : k < s.size) : s.data[k]? = some (s.data.toList.getD k 0) := by
  have h' : k < s.data.size := h
  rw [Array.getElem?_eq_getElem h', List.getD_eq_getElem?_getD, List.getElem?_eq_getElem (by simpa using h')]
  simp
/-- The last place before k. -/
def lastL (l : List UInt8) (c : UInt8) : Nat → Int
  | 0 => -1
  | k + 1 => if l.getD k 0 = c then (k : Int) else lastL l c k
theorem lastL_bd (l : List UInt8) (c : UInt8) : ∀ k, -1 ≤ lastL l c k ∧ lastL l c k < k
  | 0 => by simp [lastL]
  | k + 1 => by
    have := lastL_bd l c k
    rw [lastL]
    split <;> omega
set_option maxRecDepth 100000 in
theorem last0_spec (s : ByteArray) (c : UInt8) (hn : s.size ≤ 9000000000000000000) (w0 : World) (m0 : List Res) : PureC Tryz.prog 116 [.string s, .int .u8 c.toNat] w0 m0 (.int .i64 (lastL s.data.toList c s.size)) := by
  refine Ct.of Tryz.func116 rfl (by kernel_rfl) rfl ?_
  (refine c_sq fun k6 h6 => c_rg <| r_as rfl rfl <| r_nx h6 <| c_sq fun k8 h8 => c_sq fun k10 h10 => c_rg <| r_mv rfl rfl <| r_lS Tryz.underlying9 rfl rfl <| r_su rfl rfl rfl (wsub64 (by omega)) <| r_as rfl rfl <| r_nx h10 <| c_bl ?_; rotate_left)
  refine WC.loop (α := Nat) (fun k => [(0, .string s), (1, .int .u8 c.toNat), (5, .int .i64 ((k : Int) - 1))]) (fun _ => []) (fun k => k ≤ s.size ∧ lastL s.data.toList c k = lastL s.data.toList c s.size) (fun k => k) s.size ⟨Nat.le_refl _, rfl⟩ ⟨rfl, rfl, rfl, trivial⟩ Mem.keep ?_
  rintro k ⟨hk, e⟩
  cases k with
  | zero =>
    (refine c_sq fun k14 h14 => c_sq fun k16 h16 => c_rg <| r_mv rfl rfl <| r_geF rfl rfl rfl (by omega) <| r_nx h16 <| c_cF rfl <| c_ex <| WE.then_x <| WE.then_x <| WE.blk_x <| WE.then_n h8 <| c_sq fun k18 h18 => c_rg <| r_as rfl rfl <| r_nx h18 <| c_rt ?_; rotate_left)
    exact WE.ret1 () rfl rfl (by rw [← e]; rfl) trivial Mem.drop
  | succ k =>
    have hlt : k < s.data.size := hk
    have e1 : ((k + 1 : Nat) : Int) - 1 = (k : Int) := by omega
    rw [lastL] at e
    rw [e1]
    (refine c_sq fun k21 h21 => c_sq fun k23 h23 => c_rg <| r_mv rfl rfl <| r_geT rfl rfl rfl (by omega) <| r_nx h23 <| c_cT rfl <| c_sk <| WE.then_n h21 <| c_sq fun k25 h25 => c_bl <| c_sq fun k27 h27 => c_rg <| r_mv rfl rfl <| r_mv rfl rfl ?_; rotate_left)
    refine r_iS (v := s.data.toList.getD k 0) Tryz.underlying9 rfl rfl rfl (by omega) (byte_at s hlt) ?_
    by_cases hc : s.data.toList.getD k 0 = c
    · rw [if_pos hc] at e
      have hc2 : ((s.data.toList.getD k 0).toNat : Int) = (c.toNat : Int) := by rw [hc]
      (refine r_mv rfl rfl <| r_eqT rfl rfl rfl (by omega) <| r_nx h27 <| c_cT rfl <| c_sq fun k32 h32 => c_rg <| r_mv rfl rfl <| r_as rfl rfl <| r_nx h32 <| c_rt <| WE.blk_r <| WE.then_r <| WE.then_r <| WE.blk_r <| WE.then_r ?_; rotate_left)
      exact WE.ret1 () rfl rfl (by rw [← e]; rfl) trivial Mem.drop
    · rw [if_neg hc] at e
      have hc2 : ¬ ((s.data.toList.getD k 0).toNat : Int) = (c.toNat : Int) := fun h => hc (UInt8.toNat_inj.1 (by omega))
      (refine r_mv rfl rfl <| r_eqF rfl rfl rfl (by omega) <| r_nx h27 <| c_cF rfl <| c_sk <| WE.blk_n <| WE.then_n h25 <| c_rg <| r_mv rfl rfl <| r_su rfl rfl rfl (wsub64 (by omega)) <| r_as rfl rfl <| r_nl ?_; rotate_left)
      exact WE.back k ⟨by omega, e⟩ (by omega) ⟨rfl, rfl, rfl, trivial⟩ Mem.keep
theorem last_spec (s : ByteArray) (c : UInt8) (hn : s.size ≤ 9000000000000000000) (w0 : World) (m0 : List Res) : PureC Tryz.prog 89 [.string s, .int .u8 c.toNat] w0 m0 (.int .i64 (lastL s.data.toList c s.size)) := by
  refine Ct.of Tryz.func89 rfl (by kernel_rfl) rfl ?_
  (refine c_sq fun k6 h6 => c_rg <| r_as rfl rfl <| r_nx h6 <| c_sq fun k8 h8 => c_rg <| r_mv rfl rfl <| r_mv rfl rfl ?_; rotate_left)
  refine WX.pure rfl rfl (last0_spec s c hn _ _) rfl rfl ?_
  (refine r_as rfl rfl <| r_nx h8 <| c_rt ?_; rotate_left)
  exact WE.ret1 () rfl rfl rfl trivial Mem.drop

/-- A number with which a text begins, and how many letters it has. -/
def lowB (c : UInt8) : UInt8 := if 65 ≤ c.toNat ∧ c.toNat ≤ 90 then c + 32 else c
def readL (bias : Int) : List UInt8 → Nat → Int → Int → Int × Int
  | [], _, _, _ => (0, 0)
  | c :: r, a, i, w =>
    if valD (lowB c) < 0 ∨ 1099511627776 < i + valD (lowB c) * w then (0, 0)
    else if valD (lowB c) < thrP (((a : Int) + 1) * 36) bias then (i + valD (lowB c) * w, (a : Int) + 1)
    else if 1099511627776 < w * (36 - thrP (((a : Int) + 1) * 36) bias) then (0, 0)
    else readL bias r (a + 1) (i + valD (lowB c) * w) (w * (36 - thrP (((a : Int) + 1) * 36) bias))
def readP (s : ByteArray) (bias : Int) : Int × Int := readL bias s.data.toList 0 0 1
theorem low8 {c : UInt8} (h : 65 ≤ c.toNat ∧ c.toNat ≤ 90) : (((c + 32 : UInt8)).toNat : Int) = (c.toNat : Int) + 32 := by
  rw [UInt8.toNat_add]
  have : (32 : UInt8).toNat = 32 := rfl
  omega
set_option maxRecDepth 100000 in
theorem read_spec (s : ByteArray) (bias : Int) (hs : s.size ≤ 65536) (hb : 0 ≤ bias ∧ bias ≤ 1000) (w0 : World) (m0 : List Res) : PureC Tryz.prog 90 [.string s, .int .i64 bias] w0 m0 (.tuple #[.int .i64 (readP s bias).1, .int .i64 (readP s bias).2]) := by
  refine Ct.of Tryz.func90 rfl (by kernel_rfl) rfl ?_
  (refine c_sq fun k7 h7 => c_rg <| r_as rfl rfl <| r_as rfl rfl <| r_nx h7 <| c_sc rfl <| c_sq fun k9 h9 => c_rg <| r_as rfl rfl <| r_as rfl rfl <| r_nx h9 <| c_sq fun k11 h11 => c_lb <| WE.then_n h11 <| c_sq fun k13 h13 => c_sq fun k15 h15 => c_rg <| r_as rfl rfl <| r_nx h15 <| c_bl ?_; rotate_left)
  refine WC.loop (α := Nat × Int × Int) (fun x => [(0, .string s), (1, .int .i64 bias), (8, .int .i64 x.1), (6, .int .i64 x.2.1), (7, .int .i64 x.2.2)]) (fun _ => [])
    (fun x => x.1 ≤ s.size ∧ readL bias (s.data.toList.drop x.1) x.1 x.2.1 x.2.2 = readP s bias ∧ (0 ≤ x.2.1 ∧ x.2.1 ≤ 1099511627776) ∧ (1 ≤ x.2.2 ∧ x.2.2 ≤ 1099511627776)) (fun x => s.size - x.1) (0, 0, 1) ⟨Nat.zero_le _, rfl, by dsimp only; omega, by dsimp only; omega⟩ ⟨rfl, rfl, rfl, rfl, rfl, trivial⟩ Mem.keep ?_
  rintro ⟨a, i, w⟩ ⟨ha, e, h1, h2⟩
  dsimp only at ha e h1 h2 ⊢
  by_cases hlt : a < s.size
  · have hlt' : a < s.data.toList.length := by simpa using hlt
    have hd : s.data.toList.drop a = s.data.toList.getD a 0 :: s.data.toList.drop (a + 1) := by
      rw [List.drop_eq_getElem_cons hlt', List.getD_eq_getElem?_getD, List.getElem?_eq_getElem hlt']
      rfl
    rw [hd, readL] at e
    generalize hc : s.data.toList.getD a 0 = c at e
    have hc256 := c.toNat_lt
    have ht := thrP_bd (((a : Int) + 1) * 36) bias
    obtain ⟨c', hc'⟩ : ∃ c' : UInt8, c' = lowB c := ⟨_, rfl⟩
    rw [← hc'] at e
    have hv := valD_bd c'
    have m1 : valD c' * w ≤ 35 * w := Int.mul_le_mul_of_nonneg_right hv.2 (by omega)
    have m2 : -1 * w ≤ valD c' * w := Int.mul_le_mul_of_nonneg_right hv.1 (by omega)
    have m3 : w * (36 - thrP (((a : Int) + 1) * 36) bias) ≤ w * 35 := Int.mul_le_mul_of_nonneg_left (by omega) (by omega)
    have m4 : w * 10 ≤ w * (36 - thrP (((a : Int) + 1) * 36) bias) := Int.mul_le_mul_of_nonneg_left (by omega) (by omega)
    (refine c_sq fun k42 h42 => c_sq fun k44 h44 => c_rg <| r_mv rfl rfl <| r_mv rfl rfl <| r_lS Tryz.underlying9 rfl rfl <| r_ltT rfl rfl rfl (by omega) <| r_nx h44 <| c_cT rfl <| c_sk <| WE.then_n h42 <| c_sq fun k46 h46 => c_bl <| c_sq fun k48 h48 => c_rg <| r_mv rfl rfl <| r_mv rfl rfl ?_; rotate_left)
    refine r_iS (v := c) Tryz.underlying9 rfl rfl rfl (by omega) (by rw [← hc]; exact byte_at s hlt) ?_
    (refine r_as rfl rfl <| r_nx h48 ?_)
    refine WC.cut (α := Unit) (fun _ => [(0, .string s), (1, .int .i64 bias), (8, .int .i64 a), (6, .int .i64 i), (7, .int .i64 w), (9, .int .u8 c'.toNat)]) (fun _ => []) (fun _ => True) ?_ ?_
    · by_cases u1 : 65 ≤ (c.toNat : Int)
      · by_cases u2 : (c.toNat : Int) ≤ 90
        · have hu : (c'.toNat : Int) = (c.toNat : Int) + 32 := by rw [hc', lowB, if_pos (by omega), low8 (by omega)]
          (refine c_sq fun k53 h53 => c_rg <| r_mv rfl rfl <| r_geT rfl rfl rfl (by omega) <| r_mv rfl rfl <| r_mv rfl rfl <| r_leT rfl rfl rfl (by omega) <| r_pT rfl rfl rfl <| r_nx h53 <| c_cT rfl <| c_rg <| r_mv rfl rfl ?_; rotate_left)
          refine r_ad rfl rfl rfl (w8 (by omega)) ?_
          rw [← hu]
          (refine r_as rfl rfl <| r_nl ?_; rotate_left)
          exact WE.met () trivial ⟨rfl, rfl, rfl, rfl, rfl, rfl, trivial⟩ Mem.keep
        · have hu : c' = c := by rw [hc', lowB, if_neg (by omega)]
          rw [hu]
          (refine c_sq fun k53 h53 => c_rg <| r_mv rfl rfl <| r_geT rfl rfl rfl (by omega) <| r_mv rfl rfl <| r_mv rfl rfl <| r_leF rfl rfl rfl (by omega) <| r_pT rfl rfl rfl <| r_nx h53 <| c_cF rfl <| c_sk ?_; rotate_left)
          exact WE.met () trivial ⟨rfl, rfl, rfl, rfl, rfl, rfl, trivial⟩ Mem.keep
      · have hu : c' = c := by rw [hc', lowB, if_neg (by omega)]
        rw [hu]
        (refine c_sq fun k52 h52 => c_rg <| r_mv rfl rfl <| r_geF rfl rfl rfl (by omega) <| r_mv rfl rfl <| r_sk rfl rfl <| r_sk rfl rfl <| r_pF rfl rfl rfl <| r_nx h52 <| c_cF rfl <| c_sk ?_; rotate_left)
        exact WE.met () trivial ⟨rfl, rfl, rfl, rfl, rfl, rfl, trivial⟩ Mem.keep
    · rintro _ _
      (refine c_sq fun k52 h52 => c_rg <| r_mv rfl rfl ?_; rotate_left)
      refine WX.pure rfl rfl (idx_spec digitsB c' _ _) rfl rfl ?_
      rw [show Go.Lib.indexByte digitsB.data.toList c' = valD c' from rfl]
      by_cases v1 : valD c' < 0
      · rw [if_pos (.inl v1)] at e
        (refine r_as rfl rfl <| r_nx h52 <| c_sq fun k56 h56 => c_rg <| r_mv rfl rfl <| r_mv rfl rfl <| r_mv rfl rfl <| r_mu rfl rfl rfl (wmul64 (by omega)) <| r_ad rfl rfl rfl (wadd64 (by omega)) <| r_as rfl rfl <| r_nx h56 <| c_sq fun k58 h58 => c_sq fun k60 h60 => c_rg <| r_mv rfl rfl <| r_ltT rfl rfl rfl (by omega) <| r_mv rfl rfl <| r_sk rfl rfl <| r_sk rfl rfl <| r_pT rfl rfl rfl <| r_nx h60 <| c_cT rfl <| c_ex <| WE.then_x <| WE.blk_y rfl <| WE.then_x <| WE.then_x <| WE.blk_x <| WE.then_n h13 <| c_sq fun k62 h62 => c_rg <| r_as rfl rfl <| r_as rfl rfl <| r_nx h62 <| c_rt <| WE.sc_r ?_; rotate_left)
        exact WE.ret2 () rfl rfl rfl rfl (by rw [← e]) trivial Mem.drop
      · by_cases v2 : 1099511627776 < i + valD c' * w
        · rw [if_pos (.inr v2)] at e
          (refine r_as rfl rfl <| r_nx h52 <| c_sq fun k57 h57 => c_rg <| r_mv rfl rfl <| r_mv rfl rfl <| r_mv rfl rfl <| r_mu rfl rfl rfl (wmul64 (by omega)) <| r_ad rfl rfl rfl (wadd64 (by omega)) <| r_as rfl rfl <| r_nx h57 <| c_sq fun k59 h59 => c_sq fun k61 h61 => c_rg <| r_mv rfl rfl <| r_ltF rfl rfl rfl (by omega) <| r_mv rfl rfl <| r_mv rfl rfl <| r_gtT rfl rfl rfl (by omega) <| r_pF rfl rfl rfl <| r_nx h61 <| c_cT rfl <| c_ex <| WE.then_x <| WE.blk_y rfl <| WE.then_x <| WE.then_x <| WE.blk_x <| WE.then_n h13 <| c_sq fun k63 h63 => c_rg <| r_as rfl rfl <| r_as rfl rfl <| r_nx h63 <| c_rt <| WE.sc_r ?_; rotate_left)
          exact WE.ret2 () rfl rfl rfl rfl (by rw [← e]) trivial Mem.drop
        · rw [if_neg (by omega)] at e
          (refine r_as rfl rfl <| r_nx h52 <| c_sq fun k57 h57 => c_rg <| r_mv rfl rfl <| r_mv rfl rfl <| r_mv rfl rfl <| r_mu rfl rfl rfl (wmul64 (by omega)) <| r_ad rfl rfl rfl (wadd64 (by omega)) <| r_as rfl rfl <| r_nx h57 <| c_sq fun k59 h59 => c_sq fun k61 h61 => c_rg <| r_mv rfl rfl <| r_ltF rfl rfl rfl (by omega) <| r_mv rfl rfl <| r_mv rfl rfl <| r_gtF rfl rfl rfl (by omega) <| r_pF rfl rfl rfl <| r_nx h61 <| c_cF rfl <| c_sk <| WE.then_n h59 <| c_sq fun k63 h63 => c_rg <| r_mv rfl rfl <| r_ad rfl rfl rfl (wadd64 (by omega)) <| r_mu rfl rfl rfl (wmul64 (by omega)) <| r_mv rfl rfl ?_; rotate_left)
          refine WX.pure rfl rfl (threshold_spec (((a : Int) + 1) * 36) bias (by omega) _ _) rfl rfl ?_
          by_cases v3 : valD c' < thrP (((a : Int) + 1) * 36) bias
          · rw [if_pos v3] at e
            (refine r_as rfl rfl <| r_nx h63 <| c_sq fun k67 h67 => c_sq fun k69 h69 => c_rg <| r_mv rfl rfl <| r_mv rfl rfl <| r_ltT rfl rfl rfl (by omega) <| r_nx h69 <| c_cT rfl <| c_sq fun k71 h71 => c_rg <| r_mv rfl rfl <| r_mv rfl rfl <| r_ad rfl rfl rfl (wadd64 (by omega)) <| r_as rfl rfl <| r_as rfl rfl <| r_nx h71 <| c_rt <| WE.then_r <| WE.blk_r <| WE.then_r <| WE.then_r <| WE.blk_r <| WE.then_r <| WE.sc_r ?_; rotate_left)
            exact WE.ret2 () rfl rfl rfl rfl (by rw [← e]) trivial Mem.drop
          · rw [if_neg v3] at e
            have m5 : 0 ≤ valD c' * w := Int.mul_nonneg (by omega) (by omega)
            by_cases v4 : 1099511627776 < w * (36 - thrP (((a : Int) + 1) * 36) bias)
            · rw [if_pos v4] at e
              (refine r_as rfl rfl <| r_nx h63 <| c_sq fun k70 h70 => c_sq fun k72 h72 => c_rg <| r_mv rfl rfl <| r_mv rfl rfl <| r_ltF rfl rfl rfl (by omega) <| r_nx h72 <| c_cF rfl <| c_sk <| WE.then_n h70 <| c_sq fun k74 h74 => c_rg <| r_mv rfl rfl <| r_mv rfl rfl <| r_su rfl rfl rfl (wsub64 (by omega)) <| r_mu rfl rfl rfl (wmul64 (by omega)) <| r_as rfl rfl <| r_nx h74 <| c_sq fun k76 h76 => c_rg <| r_mv rfl rfl <| r_gtT rfl rfl rfl (by omega) <| r_nx h76 <| c_cT rfl <| c_ex <| WE.blk_y rfl <| WE.then_x <| WE.then_x <| WE.blk_x <| WE.then_n h13 <| c_sq fun k78 h78 => c_rg <| r_as rfl rfl <| r_as rfl rfl <| r_nx h78 <| c_rt <| WE.sc_r ?_; rotate_left)
              exact WE.ret2 () rfl rfl rfl rfl (by rw [← e]) trivial Mem.drop
            · rw [if_neg v4] at e
              (refine r_as rfl rfl <| r_nx h63 <| c_sq fun k70 h70 => c_sq fun k72 h72 => c_rg <| r_mv rfl rfl <| r_mv rfl rfl <| r_ltF rfl rfl rfl (by omega) <| r_nx h72 <| c_cF rfl <| c_sk <| WE.then_n h70 <| c_sq fun k74 h74 => c_rg <| r_mv rfl rfl <| r_mv rfl rfl <| r_su rfl rfl rfl (wsub64 (by omega)) <| r_mu rfl rfl rfl (wmul64 (by omega)) <| r_as rfl rfl <| r_nx h74 <| c_sq fun k76 h76 => c_rg <| r_mv rfl rfl <| r_gtF rfl rfl rfl (by omega) <| r_nx h76 <| c_cF rfl <| c_sk <| WE.blk_n <| WE.then_n h46 <| c_rg <| r_mv rfl rfl <| r_ad rfl rfl rfl (wadd64 (by omega)) <| r_as rfl rfl <| r_nl ?_; rotate_left)
              exact WE.back (a + 1, i + valD c' * w, w * (36 - thrP (((a : Int) + 1) * 36) bias)) ⟨by dsimp only; omega, e, by dsimp only; omega, by dsimp only; omega⟩ (by dsimp only; omega) ⟨rfl, rfl, rfl, rfl, rfl, trivial⟩ Mem.keep
  · (refine c_sq fun k25 h25 => c_sq fun k27 h27 => c_rg <| r_mv rfl rfl <| r_mv rfl rfl <| r_lS Tryz.underlying9 rfl rfl <| r_ltF rfl rfl rfl (by omega) <| r_nx h27 <| c_cF rfl <| c_ex <| WE.then_x <| WE.then_x <| WE.blk_x <| WE.then_n h13 <| c_sq fun k29 h29 => c_rg <| r_as rfl rfl <| r_as rfl rfl <| r_nx h29 <| c_rt <| WE.sc_r ?_; rotate_left)
    have hsz : s.data.size ≤ a := by show s.size ≤ a; omega
    have e0 : s.data.toList.drop a = [] := List.drop_eq_nil_of_le (by simpa using hsz)
    rw [e0, readL] at e
    exact WE.ret2 () rfl rfl rfl rfl (by rw [← e]) trivial Mem.drop
end Go.Proofs.YtkggplnigjlegaaGreatDoor

/- Ranging over a function: the loop's record as a resource, a call of yield as a contract, the statement, the way back with a mark among the deferred calls. -/
set_option linter.unusedSimpArgs false
set_option linter.unusedVariables false
namespace Go.Gp
open Go.RowKit

theorem Mem.putObj {w0 w : World} {m m0 : List Res} {i b : Nat} {o o' : Obj} (hw : Mem w0 (m ++ m0) w) (hi : m[i]? = some (.obj b o)) : Mem w0 (m.set i (.obj b o') ++ m0) (w.putObj b o') := by
  have hlt : i < m.length := (List.getElem?_eq_some_iff.1 hi).1
  have hi' : (m ++ m0)[i]? = some (.obj b o) := by rw [List.getElem?_append_left hlt]; exact hi
  have hb := at_lt (hw.all i _ hi') b rfl
  rw [← List.set_append_left _ _ hlt]
  refine hw.upd hi' ⟨rfl, rfl, rfl, by simp, fun k hk hne => ?_⟩ ⟨hb.1, World.putObj_heap_same hb.2⟩ (fun k hk => .inl hk)
  exact World.putObj_heap_other (fun e => hne (by rw [e]; rfl))
theorem Mem.heapObj {w0 w : World} {m m0 : List Res} {i b : Nat} {o : Obj} (hw : Mem w0 (m ++ m0) w) (hi : m[i]? = some (.obj b o)) : w.heap[b]? = some o := ((Mem.appL hw).all i _ hi).2

/-- What a call of yield comes to. -/
def YCt {α : Type} (P : Program) (lp : Nat) (args : List Value) (w0 : World) (m m0 : List Res) (φ : α → Prop) (val : α → Value) (M : α → List Res) : Prop :=
  ∀ w, Mem w0 (m ++ m0) w → YieldAt Fence.wide 0 P lp args.toArray w (sp w0 m0 φ val M)

section
variable {C : Cx} {Q : Po} {l : List (Nat × Value)} {m : List Res} {ops : Array Oper} {rest : List Oper}
theorem WX.yield {α : Type} {φ : α → Prop} {val : α → Value} {M : α → List Res} {d : Nat} {ty : TypeId} {pos : String} {af : Array Edge} {g : Option (Nat × Bool)} {fo : Operand} {xs : List Operand} {ts : Array TypeId} {lp : Nat} {vs : List Value} {m1 m2 : List Res}
    (hfo : opv l fo = some (.func (.yield lp) #[] #[])) (hxs : opvs l xs = some vs) (hm : m = m1 ++ m2) (hsp : YCt C.P lp vs C.w0 m1 (m2 ++ C.m0) φ val M) (hdn : Nat.blt d C.n = true) (hg : wants ops l g = some true)
    (k : ∀ x, φ x → WX false C Q ops rest ((d, val x) :: l) (M x ++ m2)) : WX false C Q ops (⟨some d, .call { callee := .value fo, args := xs.toArray, argTypes := ts }, ty, pos, af, g⟩ :: rest) l m := by
  show WX false C Q ops _ l m
  unfold WX WL at k ⊢
  intro a w hs
  refine wpListIn_wanted (wanted_of hs.1 hg) rfl ?_
  obtain ⟨fn, tmps, assign, body, hy, hF, hR⟩ := hsp w (by rw [← List.append_assoc, ← hm]; exact hs.2)
  have hrun : (execOp a.eval ⟨some d, .call { callee := .value fo, args := xs.toArray, argTypes := ts }, ty, pos, af, g⟩).run C.P w = .ok (.round lp fn tmps assign body) w := by
    have h1 := opvs_map (ev_of hs.1) xs vs hxs
    simp [execOp, resolve, hs.1.eval hfo, Deferred.ofValue, Go.invoke, h1, hy]
  rw [hrun, Oper.uponIn_round]
  refine ⟨fun h => by simp [FW] at h, trivial, fun c cs hroom => ?_⟩
  obtain ⟨e, w', hsp', hcome⟩ := hR c cs (room_wide _)
  refine ⟨e, w', ?_, hcome⟩
  obtain ⟨x, hx, rfl, hmem⟩ := hsp'
  refine k x hx _ _ ⟨hs.1.put d _ hdn, ?_⟩
  rw [List.append_assoc]
  exact hmem

/-- What stands behind the assignment to the loop's variable. -/
def RB (P : Program) (lp : Nat) (body : Code) (R : Ending → World → Prop) : Act → World → Prop := fun a w => ∃ w₂, (Instr.beginRound lp).run P w = .ok () w₂ ∧ body.wpIn (FW (some lp)) 0 P (roundPost P lp R) a w₂

theorem YCt.of {α : Type} {P : Program} {w0 : World} {m0 : List Res} {φ : α → Prop} {val : α → Value} {M : α → List Res} {lp p n : Nat} {v : Value} {r : Loop} (i : Nat) (hr : r.params = #[p]) (hp : Nat.blt p n = true) (hsl : Sl n [] l ⟨r.tmps, []⟩)
    (hi : m[i]? = some (.obj lp (.loop r))) (h : WC ⟨some lp, P, n, [], w0, m0⟩ (Exit.then (RB P lp r.body (sp w0 m0 φ val M)) (fun _ _ _ => False)) r.assign ((p, v) :: l) m) : YCt P lp [v] w0 m m0 φ val M := by
  intro w hw
  unfold WC at h
  have hl := Mem.heapObj hw hi
  refine ⟨r.fn, r.tmps.setIfInBounds p v, r.assign, r.body, ?_, ?_⟩
  · rw [run_yield hl (by rw [hr]; rfl)]
    simp [hr]
  · refine roundIn_of_wpIn trivial ?_
    exact h { tmps := r.tmps.setIfInBounds p v, defers := [] } w ⟨hsl.put p v hp, hw⟩

theorem WE.begin {P : Program} {n : Nat} {w0 : World} {m0 : List Res} {lp : Nat} {body : Code} {R : Ending → World → Prop} {r : Loop} (i : Nat) (hi : m[i]? = some (.obj lp (.loop r))) (hready : r.state = .ready)
    (h : WC ⟨some lp, P, n, [], w0, m0⟩ (roundPost P lp R) body l (m.set i (.obj lp (.loop { r with state := .busy })))) : WE ⟨some lp, P, n, [], w0, m0⟩ (Exit.then (RB P lp body R) Q) .normal l m := by
  unfold WE
  unfold WC at h
  intro a w hs
  exact ⟨_, run_beginRound (Mem.heapObj hs.2 hi) hready, h _ _ ⟨hs.1, Mem.putObj hs.2 hi⟩⟩

theorem WE.round_n {α : Type} {φ : α → Prop} {val : α → Value} {M : α → List Res} {lp : Nat} {r : Loop} (i : Nat) (x : α) (hi : m[i]? = some (.obj lp (.loop r))) (hv : val x = .bool true) (hφ : φ x)
    (hM : ∀ w, Mem C.w0 (m.set i (.obj lp (.loop { r with state := .ready, pending := none })) ++ C.m0) w → Mem C.w0 (M x ++ C.m0) w) : WE C (roundPost C.P lp (sp C.w0 C.m0 φ val M)) .normal l m := by
  unfold WE
  intro a w hs
  refine ⟨_, _, run_endRound none (Mem.heapObj hs.2 hi), x, hφ, by rw [hv]; rfl, hM _ (Mem.putObj hs.2 hi)⟩
theorem WE.round_r {α : Type} {φ : α → Prop} {val : α → Value} {M : α → List Res} {lp : Nat} {r : Loop} (i : Nat) (x : α) (hi : m[i]? = some (.obj lp (.loop r))) (hv : val x = .bool false) (hφ : φ x)
    (hM : ∀ w, Mem C.w0 (m.set i (.obj lp (.loop { r with state := .done, pending := some .ret })) ++ C.m0) w → Mem C.w0 (M x ++ C.m0) w) : WE C (roundPost C.P lp (sp C.w0 C.m0 φ val M)) .ret l m := by
  unfold WE
  intro a w hs
  refine ⟨_, _, run_endRound (some .ret) (Mem.heapObj hs.2 hi), x, hφ, by rw [hv]; rfl, hM _ (Mem.putObj hs.2 hi)⟩
theorem WE.round_x {α : Type} {φ : α → Prop} {val : α → Value} {M : α → List Res} {lp id : Nat} {r : Loop} (i : Nat) (x : α) (hi : m[i]? = some (.obj lp (.loop r))) (hv : val x = .bool false) (hφ : φ x)
    (hM : ∀ w, Mem C.w0 (m.set i (.obj lp (.loop { r with state := .done, pending := some (.exit id) })) ++ C.m0) w → Mem C.w0 (M x ++ C.m0) w) : WE C (roundPost C.P lp (sp C.w0 C.m0 φ val M)) (.exit id) l m := by
  unfold WE
  intro a w hs
  refine ⟨_, _, run_endRound (some (.exit id)) (Mem.heapObj hs.2 hi), x, hφ, by rw [hv]; rfl, hM _ (Mem.putObj hs.2 hi)⟩
end

/-- The mark of the block for the rounds' deferred calls. -/
abbrev dmark (dk : Nat) : Deferred := { target := .collected dk, args := #[] }

section
variable {P : Program} {n : Nat} {D : List Deferred} {w0 : World} {m0 : List Res} {Q : Po} {l : List (Nat × Value)} {m : List Res}
/-- A statement that may leave other deferred calls. -/
theorem c_sqD {r : Option Nat} {x y : Code} (h : ∀ K : Act → World → Prop, (∀ d l m, WC ⟨r, P, n, d, w0, m0⟩ Q y l m → CK ⟨r, P, n, d, w0, m0⟩ K l m) → WC ⟨r, P, n, D, w0, m0⟩ (Exit.then K Q) x l m) : WC ⟨r, P, n, D, w0, m0⟩ Q (.seq x y) l m := by
  unfold WC CK at h
  unfold WC
  exact fun a w hs => wpIn_seq (h (fun a w => y.wpIn (FW r) 0 P Q a w) (fun d l m h => h) a w hs)

/-- THE STATEMENT. -/
theorem WC.range {g : Operand} {ps : Array Tmp} {assign body : Code} {f : FuncId} {cs : List Value} (hg : opv l g = some (.func (.func f) #[] cs.toArray))
    (h : ∀ (dk lp : Nat) (r : Loop), r.state = .ready → r.pending = none → r.params = ps → r.assign = assign → r.body = body → Sl n [] l ⟨r.tmps, []⟩ →
      ∃ (α : Type) (φ : α → Prop) (val : α → Value) (M : α → List Res), Ct P f (.func (.yield lp) #[] #[] :: cs) w0 (.obj lp (.loop r) :: .obj dk (.deferred (some [])) :: m) m0 φ val M ∧
        ∀ x, φ x → ∃ (r' : Loop) (i : Nat), (M x)[i]? = some (.obj lp (.loop r')) ∧ r'.state ≠ .busy ∧ ∀ r'' : Loop,
          ((r'.pending = none ∧ WE ⟨none, P, n, dmark dk :: D, w0, m0⟩ Q .normal l ((M x).set i (.obj lp (.loop r'')))) ∨
           (r'.pending = some .ret ∧ WE ⟨none, P, n, dmark dk :: D, w0, m0⟩ Q .ret l ((M x).set i (.obj lp (.loop r'')))) ∨
           ∃ id, r'.pending = some (.exit id) ∧ WE ⟨none, P, n, dmark dk :: D, w0, m0⟩ Q (.exit id) l ((M x).set i (.obj lp (.loop r'')))))
    : WC ⟨none, P, n, D, w0, m0⟩ Q (.rangeFunc g ps assign body) l m := by
  unfold WC
  intro a w hs
  refine wpIn_rangeFunc (F := FW none) fun fn _ => ?_
  have hrec : ∃ r : Loop, r = { state := .ready, pending := none, fn, tmps := a.tmps, params := ps, assign, body, defers := w.heap.size } := ⟨_, rfl⟩
  obtain ⟨r, hr⟩ := hrec
  obtain ⟨α, φ, val, M, hct, hx⟩ := h w.heap.size (w.heap.size + 1) r (by rw [hr]) (by rw [hr]) (by rw [hr]) (by rw [hr]) (by rw [hr]) (by rw [hr]; exact ⟨rfl, hs.1.size, hs.1.at_⟩)
  unfold Ct at hct
  obtain ⟨hE, hct⟩ := hct
  have hev := hs.1.eval hg
  have hbnd : w0.heap.size ≤ w.heap.size := hs.2.bnd
  have hm1 : Mem w0 (.obj w.heap.size (.deferred (some [])) :: (m ++ m0)) (w.alloc (.deferred (some []))) :=
    hs.2.add (World.grownBy_alloc w _ none) ⟨hbnd, heap_alloc_new w _⟩ (fun k hk => by simp [Res.block] at hk; omega)
  have hm2 : Mem w0 (.obj (w.heap.size + 1) (.loop r) :: .obj w.heap.size (.deferred (some [])) :: (m ++ m0)) ((w.alloc (.deferred (some []))).alloc (.loop r)) := by
    have hsz : (w.alloc (.deferred (some []))).heap.size = w.heap.size + 1 := by simp
    refine hm1.add (World.grownBy_alloc _ _ none) ⟨by omega, ?_⟩ (fun k hk => by simp [Res.block] at hk; omega)
    rw [← hsz]
    exact heap_alloc_new _ _
  have hent : (Instr.enterLoop fn a.tmps ps assign body (FW none).round).run P w = .ok (w.heap.size + 1, [dmark w.heap.size]) ((w.alloc (.deferred (some []))).alloc (.loop r)) := by
    rw [hr]
    exact run_enterLoop_outer fn a.tmps ps assign body
  refine ⟨w.heap.size + 1, [dmark w.heap.size], _, { target := .fn (.func f) cs.toArray, args := #[.func (.yield (w.heap.size + 1)) #[] #[]] }, (w.alloc (.deferred (some []))).alloc (.loop r), f, (.func (.yield (w.heap.size + 1)) #[] #[] :: cs).toArray, (w.alloc (.deferred (some []))).alloc (.loop r), hent, ?_, fun _ _ => trivial, ?_, fun h => by simp [FW] at h, ?_⟩
  · simp only [rangeCall, resolve, hev, Deferred.ofValue]
    simp [Act.eval]
  · obtain ⟨fnn, hf, hnm, hb⟩ := hE
    have hn' : fnn.name ≠ "runtime.NumGoroutine" := by simpa using hnm
    have hb' : fnn.body ≠ none := by intro e; simp [e] at hb
    simp [Go.invoke, callFunc, hf, hn', hb']
  · have hc : CallsIn Fence.wide 0 P f (.func (.yield (w.heap.size + 1)) #[] #[] :: cs).toArray ((w.alloc (.deferred (some []))).alloc (.loop r)) (sp w0 m0 φ val M) := callsIn_wide.2 (hct _ hm2)
    refine CallsIn.mono (F := FW none) hc ?_
    rintro e w' ⟨x, hφ, rfl, hmem⟩
    obtain ⟨r', i, hi, hnb, hend⟩ := hx x hφ
    obtain ⟨W, R, hrun, hmem'⟩ : ∃ (W : World) (R : Loop), (Instr.endLoop (w.heap.size + 1)).run P w' = .ok r'.pending W ∧ Mem w0 ((M x).set i (.obj (w.heap.size + 1) (.loop R)) ++ m0) W :=
      ⟨_, _, run_endLoop (P := P) (Mem.heapObj hmem hi) hnb, Mem.putObj hmem hi⟩
    have hst : Sl n (dmark w.heap.size :: D) l { a with defers := [dmark w.heap.size] ++ a.defers } := ⟨by simp [hs.1.d], hs.1.size, hs.1.at_⟩
    refine ⟨_, _, hrun, ?_⟩
    rcases hend R with ⟨hp, hw⟩ | ⟨hp, hw⟩ | ⟨id, hp, hw⟩
    · rw [hp]
      unfold WE at hw
      exact hw _ _ ⟨hst, hmem'⟩
    · rw [hp]
      unfold WE at hw
      exact wpIn_ret (hw _ _ ⟨hst, hmem'⟩)
    · rw [hp]
      unfold WE at hw
      exact wpIn_exit (hw _ _ ⟨hst, hmem'⟩)
end

/-! ### A function that holds such a loop -/
section
variable {α : Type} {P : Program} {f : FuncId} {w0 : World} {m m0 : List Res} {φ : α → Prop} {val : α → Value} {M : α → List Res}
abbrev bpM (P : Program) (fn : Func) (R : Ending → World → Prop) : Po := bodyPostM Fence.wide 0 P fn R
theorem Ct.ofM {fn : Func} {c : Code} {args : List Value} (hf : P.funcs[f]? = some fn) (hb : fn.body = some c) (hname : (fn.name == "runtime.NumGoroutine") = false) (hn : Nat.ble args.length fn.ntmps = true)
    (h : WC ⟨none, P, fn.ntmps, [], w0, m0⟩ (bpM P fn (sp w0 m0 φ val M)) c (slotsOf 0 args) m) : Ct P f args w0 m m0 φ val M := by
  unfold Ct
  refine ⟨⟨fn, hf, hname, by rw [hb]; rfl⟩, fun w hw => ?_⟩
  have hn' : args.length ≤ fn.ntmps := by simpa using hn
  unfold WC at h
  refine callsIn_wide.1 (callsIn_of_wp_marks (n := 0) hf hb trivial (h _ w ⟨⟨rfl, ?_, ?_⟩, hw⟩))
  · simp; omega
  · intro s v hv
    obtain ⟨_, h2⟩ := lk_slotsOf args 0 s v hv
    have hlt := (List.getElem?_eq_some_iff.1 h2).1
    simp only [Nat.sub_zero] at h2 hlt
    rw [Array.getD_eq_getD_getElem?, Array.getElem?_append_left (by simpa using hlt)]
    simp [h2]
end

section
variable {α : Type} {C : Cx} {l : List (Nat × Value)} {m : List Res} {fn : Func} {φ : α → Prop} {val : α → Value} {M : α → List Res}
/-- Two results, in cells. -/
theorem results_cell2 {fn : Func} {a b t u : Nat} {tmps : Array Value} {P : Program} {w : World} {A B : Addr} {v1 v2 : Value} {d1 d2 : TypeDesc} (h : fn.results = #[.cell a t, .cell b u]) (ha : tmps.getD a undef = .pointer (some A)) (hb : tmps.getD b undef = .pointer (some B))
    (ht : P.underlying t = some d1) (h1 : oneTy d1 = true) (hu : P.underlying u = some d2) (h2 : oneTy d2 = true) (hc1 : w.cell? A = some v1) (hc2 : w.cell? B = some v2) : (results fn tmps).run P w = .ok (.tuple #[v1, v2]) w := by
  simp only [Array.getD_eq_getD_getElem?] at ha hb
  simp [results, h, ha, hb, asAddr, run_loadVar_one ht h1, run_loadVar_one hu h2, hc1, hc2]
theorem WE.retMc2 {p q : Nat} {t u : TypeId} {d1 d2 : TypeDesc} {b1 b2 : Nat} {e1 e2 : TypeId} {v1 v2 : Value} (x : α) (hres : fn.results = #[.cell p t, .cell q u]) (hD : C.D = []) (ht : C.P.underlying t = some d1) (h1 : oneTy d1 = true) (hu : C.P.underlying u = some d2) (h2 : oneTy d2 = true)
    (hp : lk p l = some (.pointer (some ⟨b1, 0, none⟩))) (hq : lk q l = some (.pointer (some ⟨b2, 0, none⟩))) (i j : Nat) (hi : m[i]? = some (.blk b1 [v1] e1)) (hj : m[j]? = some (.blk b2 [v2] e2)) (hv : val x = .tuple #[v1, v2]) (hφ : φ x) (hM : ∀ w, Mem C.w0 (m ++ C.m0) w → Mem C.w0 (M x ++ C.m0) w) :
    WE C (bpM C.P fn (sp C.w0 C.m0 φ val M)) .ret l m := by
  unfold WE
  intro a w hs
  have g1 := ((Mem.appL hs.2).all i _ hi).2
  have g2 := ((Mem.appL hs.2).all j _ hj).2
  show LeavesInM _ _ _ _ _ _ a.defers _ _
  rw [hs.1.d, hD]
  have c1 : w.cell? ⟨b1, 0, none⟩ = some v1 := by rw [cell_of_row w b1 0 _ e1 (0, 0) g1]; rfl
  have c2 : w.cell? ⟨b2, 0, none⟩ = some v2 := by rw [cell_of_row w b2 0 _ e2 (0, 0) g2]; rfl
  exact ⟨_, results_cell2 hres (hs.1.at_ p _ hp) (hs.1.at_ q _ hq) ht h1 hu h2 c1 c2, x, hφ, by rw [hv], hM w hs.2⟩
theorem WE.retM1c2 {p q : Nat} {t u : TypeId} {d1 d2 : TypeDesc} {b1 b2 dk : Nat} {e1 e2 : TypeId} {v1 v2 : Value} (x : α) (hres : fn.results = #[.cell p t, .cell q u]) (hD : C.D = [dmark dk]) (ht : C.P.underlying t = some d1) (h1 : oneTy d1 = true) (hu : C.P.underlying u = some d2) (h2 : oneTy d2 = true)
    (hp : lk p l = some (.pointer (some ⟨b1, 0, none⟩))) (hq : lk q l = some (.pointer (some ⟨b2, 0, none⟩))) (i j k : Nat) (hi : m[i]? = some (.blk b1 [v1] e1)) (hj : m[j]? = some (.blk b2 [v2] e2)) (hk : m[k]? = some (.obj dk (.deferred (some [])))) (hki : k ≠ i) (hkj : k ≠ j) (hv : val x = .tuple #[v1, v2]) (hφ : φ x) (hM : ∀ w, Mem C.w0 (m.set k (.obj dk (.deferred none)) ++ C.m0) w → Mem C.w0 (M x ++ C.m0) w) :
    WE C (bpM C.P fn (sp C.w0 C.m0 φ val M)) .ret l m := by
  unfold WE
  intro a w hs
  have hw' : Mem C.w0 (m.set k (.obj dk (.deferred none)) ++ C.m0) (w.putObj dk (.deferred none)) := Mem.putObj hs.2 hk
  have g1 : Res.at C.w0.heap.size _ (.blk b1 [v1] e1) := (Mem.appL hw').all i _ (by rw [List.getElem?_set_ne hki]; exact hi)
  have g2 : Res.at C.w0.heap.size _ (.blk b2 [v2] e2) := (Mem.appL hw').all j _ (by rw [List.getElem?_set_ne hkj]; exact hj)
  have g1 := g1.2
  have g2 := g2.2
  show LeavesInM _ _ _ _ _ _ a.defers _ _
  rw [hs.1.d, hD]
  refine ⟨by simp, .inl ⟨dk, _, rfl, run_takeDeferred (Mem.heapObj hs.2 hk), ?_⟩⟩
  have c1 : (w.putObj dk (.deferred none)).cell? ⟨b1, 0, none⟩ = some v1 := by rw [cell_of_row _ b1 0 _ e1 (0, 0) g1]; rfl
  have c2 : (w.putObj dk (.deferred none)).cell? ⟨b2, 0, none⟩ = some v2 := by rw [cell_of_row _ b2 0 _ e2 (0, 0) g2]; rfl
  exact ⟨_, results_cell2 hres (hs.1.at_ p _ hp) (hs.1.at_ q _ hq) ht h1 hu h2 c1 c2, x, hφ, by rw [hv], hM _ hw'⟩
end
attribute [irreducible] YCt
end Go.Gp

/- The ranges of code points that a name's mapping knows. -/
namespace Go.Proofs.YtkggplnigjlegaaGreatDoor
open Go.RowKit Go.Gp
def spanList : List (Int × Int × Int) := [
 (65,90,32),(128,160,-1),(173,173,-2),(192,214,32),(216,222,32),(913,929,32),(931,937,32),(1024,1039,80),(1040,1071,32),(5760,5760,-1),(7838,7838,-5),(8192,8202,-1),(8203,8203,-2),(8206,8207,-1),(8232,8239,-1),(8287,8287,-1),(8288,8288,-2),(8294,8297,-1),(12290,12290,-3),(55296,57343,-1),(57344,63743,-1),(64976,65007,-1),(65279,65279,-2),(65281,65374,-4),(65377,65377,-3),(65529,65535,-1),(917504,2147483647,-1),(-2147483648,-1,-1)]
def spanVals : List Value := spanList.flatMap fun s => [.int .i32 s.1, .int .i32 s.2.1, .int .i32 s.2.2]
def zeros84 : List Value := List.replicate 84 (.int .i32 0)
theorem zeroSpans (w : World) : (zeroValue 108).run Tryz.prog w = .ok (.agg zeros84.toArray) w := by kernel_rfl
set_option maxRecDepth 100000 in
theorem spans_spec (w0 : World) (m0 : List Res) : PureC Tryz.prog 83 [] w0 m0 (.agg spanVals.toArray) := by
  refine Ct.of Tryz.func83 rfl (by kernel_rfl) rfl ?_
  refine c_sq fun _ _ => (c_rg (r_al zeroSpans (cs := zeros84) rfl rfl fun g => r_nx (by with_reducible assumption) ?_))
  refine c_sq fun _ _ => (c_rg ?_)
  iterate 28 (refine r_bd rfl (fun _ => by kernel_rfl) rfl ?_)
  refine r_bu (v := .agg spanVals.toArray) rfl (fun _ => by kernel_rfl) rfl ?_
  refine r_sa 0 (by kernel_rfl) rfl rfl (by decide +kernel) rfl rfl rfl rfl ?_
  refine r_nx (by with_reducible assumption) (c_rt ?_)
  exact WE.retc (i := 0) () rfl rfl Tryz.underlying108 rfl (by kernel_rfl) rfl rfl rfl trivial Mem.drop
def sp (i : Nat) : Int × Int × Int := spanList.getD i (0, 0, 0)
theorem indexSpans (i : Nat) (h : i < 28) (w : World) : (Instr.index 108 (.agg spanVals.toArray) (.int .i64 i)).run Tryz.prog w = .ok (.agg #[.int .i32 (sp i).1, .int .i32 (sp i).2.1, .int .i32 (sp i).2.2]) w := by
  have h' : i = 0 ∨ i = 1 ∨ i = 2 ∨ i = 3 ∨ i = 4 ∨ i = 5 ∨ i = 6 ∨ i = 7 ∨ i = 8 ∨ i = 9 ∨ i = 10 ∨ i = 11 ∨ i = 12 ∨ i = 13 ∨ i = 14 ∨ i = 15 ∨ i = 16 ∨ i = 17 ∨ i = 18 ∨ i = 19 ∨ i = 20 ∨ i = 21 ∨ i = 22 ∨ i = 23 ∨ i = 24 ∨ i = 25 ∨ i = 26 ∨ i = 27 := by omega
  rcases h' with rfl | rfl | rfl | rfl | rfl | rfl | rfl | rfl | rfl | rfl | rfl | rfl | rfl | rfl | rfl | rfl | rfl | rfl | rfl | rfl | rfl | rfl | rfl | rfl | rfl | rfl | rfl | rfl
  all_goals (show _ = _; kernel_rfl)
end Go.Proofs.YtkggplnigjlegaaGreatDoor

/- What a code point of a name is mapped to: the contract of fold.Map. -/
namespace Go.Proofs.YtkggplnigjlegaaGreatDoor
open Go.RowKit Go.Gp

abbrev runes (l : List Int) : List Value := l.map (.int .i32 ·)
/-- A slice of runes that the call owns, and something beside it. -/
abbrev OwnR (p : Option Addr × Nat) (l : List Int) : Res := .own p.1 p.2 l.length (runes l) 21 1
abbrev SlR (p : Option Addr × Nat) (l : List Int) : Value := .slice p.1 l.length p.2

theorem zeroSpan (w : World) : (zeroValue 107).run Tryz.prog w = .ok (.agg #[.int .i32 0, .int .i32 0, .int .i32 0]) w := by kernel_rfl
def zeros3 : List Value := [.int .i32 0, .int .i32 0, .int .i32 0]
def inSp (s : Int × Int × Int) (c : Int) : Bool := decide (s.1 ≤ c) && decide (c ≤ s.2.1)
def doOf (c : Int) : Int := ((spanList.find? fun s => inSp s c).map (·.2.2)).getD 0
theorem find_skip {α : Type} (f : α → Bool) : ∀ (l : List α) (i : Nat) (d : α), (∀ j, j < i → f (l.getD j d) = false) → i ≤ l.length → l.find? f = (l.drop i).find? f
  | l, 0, d, _, _ => by simp
  | [], i + 1, d, _, h => by simp at h
  | x :: l, i + 1, d, h, hl => by
    have h0 := h 0 (by omega)
    simp at h0
    have ih := find_skip f l i d (fun j hj => by have := h (j + 1) (by omega); simpa using this) (by simpa using hl)
    simp [h0, ih]
theorem doOf_at {c : Int} {i : Nat} (hi : i < 28) (hb : ∀ j, j < i → inSp (sp j) c = false) (h : inSp (sp i) c = true) : doOf c = (sp i).2.2 := by
  have hl : spanList.length = 28 := by decide
  unfold doOf
  rw [find_skip (fun s => inSp s c) spanList i (0, 0, 0) hb (by omega)]
  have hlt : i < spanList.length := by omega
  rw [List.drop_eq_getElem_cons hlt]
  have hs : sp i = spanList[i] := by simp [sp, hlt]
  rw [hs] at h
  rw [List.find?_cons, hs]
  simp only [h]
  rfl
theorem doOf_no {c : Int} (hb : ∀ j, j < 28 → inSp (sp j) c = false) : doOf c = 0 := by
  unfold doOf
  rw [find_skip (fun s => inSp s c) spanList 28 (0, 0, 0) hb (by decide)]
  rfl

def map1 (c d : Int) : List Int × Bool := if d = -1 then ([], false) else if d = -2 then ([], true) else if d = -3 then ([46], true) else if d = -5 then ([115, 115], true) else ([c + d], true)
def mapP (c : Int) : List Int × Bool := if doOf c = -4 then map1 (c - 65248) (doOf (c - 65248)) else map1 c (doOf c)

theorem doOf_cases (c : Int) : (∃ i, i < 28 ∧ inSp (sp i) c = true ∧ doOf c = (sp i).2.2) ∨ doOf c = 0 := by
  by_cases h : ∃ i, i < 28 ∧ inSp (sp i) c = true
  · obtain ⟨i, hi, h⟩ := h
    have : ∀ i, i < 28 → inSp (sp i) c = true → ∃ k, k < 28 ∧ inSp (sp k) c = true ∧ ∀ j, j < k → inSp (sp j) c = false := by
      intro i
      induction i using Nat.strongRecOn with
      | _ i ih =>
        intro hi h
        by_cases hj : ∃ j, j < i ∧ inSp (sp j) c = true
        · obtain ⟨j, hj, hj'⟩ := hj
          exact ih j hj (by omega) hj'
        · exact ⟨i, hi, h, fun j hj1 => by
            cases hb : inSp (sp j) c with
            | false => rfl
            | true => exact absurd ⟨j, hj1, hb⟩ hj⟩
    obtain ⟨k, h1, h2, h3⟩ := this i hi h
    exact .inl ⟨k, h1, h2, doOf_at h1 h3 h2⟩
  · exact .inr (doOf_no fun j hj => by
      cases hb : inSp (sp j) c with
      | false => rfl
      | true => exact absurd ⟨j, hj, hb⟩ h)
theorem doOf_bd (c : Int) (h1 : -2147483648 ≤ c) (h2 : c ≤ 2147483647) : -5 ≤ doOf c ∧ (0 ≤ doOf c → -2147483648 ≤ c + doOf c ∧ c + doOf c ≤ 2147483647) ∧ (doOf c = -4 → 65281 ≤ c ∧ c ≤ 65374) := by
  rcases doOf_cases c with ⟨i, hi, h, e⟩ | e
  · have h' : i = 0 ∨ i = 1 ∨ i = 2 ∨ i = 3 ∨ i = 4 ∨ i = 5 ∨ i = 6 ∨ i = 7 ∨ i = 8 ∨ i = 9 ∨ i = 10 ∨ i = 11 ∨ i = 12 ∨ i = 13 ∨ i = 14 ∨ i = 15 ∨ i = 16 ∨ i = 17 ∨ i = 18 ∨ i = 19 ∨ i = 20 ∨ i = 21 ∨ i = 22 ∨ i = 23 ∨ i = 24 ∨ i = 25 ∨ i = 26 ∨ i = 27 := by omega
    rw [e]
    rcases h' with rfl | rfl | rfl | rfl | rfl | rfl | rfl | rfl | rfl | rfl | rfl | rfl | rfl | rfl | rfl | rfl | rfl | rfl | rfl | rfl | rfl | rfl | rfl | rfl | rfl | rfl | rfl | rfl
    all_goals (simp [inSp, sp, spanList] at h ⊢; try omega)
  · rw [e]; omega

theorem small_do {c : Int} (h1 : 33 ≤ c) (h2 : c ≤ 126) : doOf c = if c ≤ 90 ∧ 65 ≤ c then 32 else 0 := by
  by_cases h : c ≤ 90 ∧ 65 ≤ c
  · rw [if_pos h]
    exact doOf_at (i := 0) (by omega) (by omega) (by simp [inSp, sp, spanList]; omega)
  · rw [if_neg h]
    refine doOf_no fun j hj => ?_
    have h' : j = 0 ∨ j = 1 ∨ j = 2 ∨ j = 3 ∨ j = 4 ∨ j = 5 ∨ j = 6 ∨ j = 7 ∨ j = 8 ∨ j = 9 ∨ j = 10 ∨ j = 11 ∨ j = 12 ∨ j = 13 ∨ j = 14 ∨ j = 15 ∨ j = 16 ∨ j = 17 ∨ j = 18 ∨ j = 19 ∨ j = 20 ∨ j = 21 ∨ j = 22 ∨ j = 23 ∨ j = 24 ∨ j = 25 ∨ j = 26 ∨ j = 27 := by omega
    rcases h' with rfl | rfl | rfl | rfl | rfl | rfl | rfl | rfl | rfl | rfl | rfl | rfl | rfl | rfl | rfl | rfl | rfl | rfl | rfl | rfl | rfl | rfl | rfl | rfl | rfl | rfl | rfl | rfl
    all_goals (simp [inSp, sp, spanList]; omega)
theorem wide_narrow {c : Int} (h : doOf c = -4) : doOf (c - 65248) ≠ -4 := by
  have hb : 65281 ≤ c ∧ c ≤ 65374 := by
    rcases doOf_cases c with ⟨i, hi, h', e⟩ | e
    · rw [h] at e
      have hc : i = 0 ∨ i = 1 ∨ i = 2 ∨ i = 3 ∨ i = 4 ∨ i = 5 ∨ i = 6 ∨ i = 7 ∨ i = 8 ∨ i = 9 ∨ i = 10 ∨ i = 11 ∨ i = 12 ∨ i = 13 ∨ i = 14 ∨ i = 15 ∨ i = 16 ∨ i = 17 ∨ i = 18 ∨ i = 19 ∨ i = 20 ∨ i = 21 ∨ i = 22 ∨ i = 23 ∨ i = 24 ∨ i = 25 ∨ i = 26 ∨ i = 27 := by omega
      rcases hc with rfl | rfl | rfl | rfl | rfl | rfl | rfl | rfl | rfl | rfl | rfl | rfl | rfl | rfl | rfl | rfl | rfl | rfl | rfl | rfl | rfl | rfl | rfl | rfl | rfl | rfl | rfl | rfl
      all_goals (simp [inSp, sp, spanList] at h' e)
      all_goals omega
    · omega
  rw [small_do (by omega) (by omega)]
  split <;> decide

abbrev MapS (c : Int) (w0 : World) (m0 : List Res) : Prop := Ct (α := Option Addr × Nat) Tryz.prog 53 [.int .i32 c] w0 [] m0 (fun _ => True) (fun p => .tuple #[SlR p (mapP c).1, .bool (mapP c).2]) (fun p => [OwnR p (mapP c).1])

set_option maxRecDepth 100000 in
set_option maxHeartbeats 1000000 in
theorem map_gen (c : Int) (h1 : -2147483648 ≤ c) (h2 : c ≤ 2147483647) (w0 : World) (m0 : List Res) (hrec : doOf c = -4 → MapS (c - 65248) w0 m0) : MapS c w0 m0 := by
  have hbd := doOf_bd c h1 h2
  refine Ct.of Tryz.func53 rfl (by kernel_rfl) rfl ?_
  refine c_sq fun _ _ => (c_rg ?_); (refine r_as rfl rfl <| r_as rfl rfl ?_; rotate_left); refine r_nx (by with_reducible assumption) (c_sc rfl (c_sq fun _ _ => (c_rg ?_)))
  (refine r_as rfl rfl ?_; rotate_left); refine r_nx (by with_reducible assumption) (c_sq fun _ _ => (c_lb (WE.then_n (by with_reducible assumption) ?_)))
  refine WC.cut (α := Unit) (fun _ => [(0, .int .i32 c), (4, .int .i32 (doOf c))]) (fun _ => []) (fun _ => True) ?_ (fun _ _ => ?_)
  · refine c_sq fun _ _ => (c_rg ?_)
    refine WX.pure rfl rfl (spans_spec _ _) rfl rfl ?_
    (refine r_mv rfl rfl ?_; rotate_left)
    refine r_nx (by with_reducible assumption) (c_bl ?_)
    refine WC.loop (α := Nat) (fun i => [(0, .int .i32 c), (4, .int .i32 0), (7, .agg spanVals.toArray), (8, .int .i64 i)]) (fun _ => []) (fun i => i ≤ 28 ∧ ∀ j, j < i → inSp (sp j) c = false) (fun i => 28 - i) 0 ⟨by omega, by omega⟩ ⟨rfl, rfl, rfl, rfl, trivial⟩ Mem.drop ?_
    rintro i ⟨hi, hb⟩
    by_cases hlt : i < 28
    · (refine c_sq fun k20 h20 => c_rg <| r_ltT rfl rfl rfl (by omega) <| r_nx h20 <| c_sq fun k22 h22 => c_cT rfl <| c_sk <| WE.then_n h22 <| c_sq fun k24 h24 => c_bl <| c_sq fun k26 h26 => c_rg ?_; rotate_left)
      refine r_ix rfl rfl (indexSpans i hlt) rfl ?_
      refine r_al zeroSpan (cs := zeros3) rfl rfl fun g => ?_
      refine r_sa 0 (by kernel_rfl) rfl rfl rfl rfl rfl rfl rfl ?_
      by_cases hin : inSp (sp i) c = true
      · have hin' := hin
        simp only [inSp, Bool.and_eq_true, decide_eq_true_eq] at hin'
        (refine r_nx h26 <| c_sq fun k32 h32 => c_rg <| r_mv rfl rfl <| r_fa 0 rfl (fun _ => by kernel_rfl) rfl <| r_lb 0 Tryz.underlying21 rfl rfl rfl rfl rfl <| r_geT rfl rfl rfl (by omega) <| r_mv rfl rfl <| r_mv rfl rfl <| r_fa 1 rfl (fun _ => by kernel_rfl) rfl <| r_lb 0 Tryz.underlying21 rfl rfl rfl rfl rfl <| r_leT rfl rfl rfl (by omega) <| r_pT rfl rfl rfl <| r_nx h32 <| c_cT rfl <| c_sq fun k34 h34 => c_rg <| r_fa 2 rfl (fun _ => by kernel_rfl) rfl <| r_lb 0 Tryz.underlying21 rfl rfl rfl rfl rfl <| r_as rfl rfl <| r_nx h34 <| c_ex <| WE.blk_y rfl <| WE.then_x <| WE.then_x <| WE.blk_x ?_; rotate_left)
        exact WE.met () trivial ⟨rfl, by rw [doOf_at hlt hb hin]; rfl, trivial⟩ Mem.drop
      · have hin0 : inSp (sp i) c = false := by simpa using hin
        have hin' := hin0
        simp only [inSp, Bool.and_eq_false_iff, decide_eq_false_iff_not] at hin'
        rcases hin' with hin' | hin'
        · (refine r_nx h26 <| c_sq fun k32 h32 => c_rg <| r_mv rfl rfl <| r_fa 0 rfl (fun _ => by kernel_rfl) rfl <| r_lb 0 Tryz.underlying21 rfl rfl rfl rfl rfl <| r_geF rfl rfl rfl (by omega) <| r_mv rfl rfl <| r_sk rfl rfl <| r_sk rfl rfl <| r_sk rfl rfl <| r_sk rfl rfl <| r_pF rfl rfl rfl <| r_nx h32 <| c_cF rfl <| c_sk <| WE.blk_n <| WE.then_n h24 <| c_rg <| r_ad rfl rfl rfl (wadd64 (by omega)) <| r_mv rfl rfl <| r_nl ?_; rotate_left)
          exact WE.back (i + 1) ⟨by omega, fun j hj => by rcases Nat.lt_succ_iff_lt_or_eq.1 hj with h | rfl; exact hb j h; exact hin0⟩ (by omega) ⟨rfl, rfl, rfl, rfl, trivial⟩ Mem.drop
        · by_cases hlo : (sp i).1 ≤ c
          · (refine r_nx h26 <| c_sq fun k33 h33 => c_rg <| r_mv rfl rfl <| r_fa 0 rfl (fun _ => by kernel_rfl) rfl <| r_lb 0 Tryz.underlying21 rfl rfl rfl rfl rfl <| r_geT rfl rfl rfl (by omega) <| r_mv rfl rfl <| r_mv rfl rfl <| r_fa 1 rfl (fun _ => by kernel_rfl) rfl <| r_lb 0 Tryz.underlying21 rfl rfl rfl rfl rfl <| r_leF rfl rfl rfl (by omega) <| r_pT rfl rfl rfl <| r_nx h33 <| c_cF rfl <| c_sk <| WE.blk_n <| WE.then_n h24 <| c_rg <| r_ad rfl rfl rfl (wadd64 (by omega)) <| r_mv rfl rfl <| r_nl ?_; rotate_left)
            exact WE.back (i + 1) ⟨by omega, fun j hj => by rcases Nat.lt_succ_iff_lt_or_eq.1 hj with h | rfl; exact hb j h; exact hin0⟩ (by omega) ⟨rfl, rfl, rfl, rfl, trivial⟩ Mem.drop
          · (refine r_nx h26 <| c_sq fun k33 h33 => c_rg <| r_mv rfl rfl <| r_fa 0 rfl (fun _ => by kernel_rfl) rfl <| r_lb 0 Tryz.underlying21 rfl rfl rfl rfl rfl <| r_geF rfl rfl rfl (by omega) <| r_mv rfl rfl <| r_sk rfl rfl <| r_sk rfl rfl <| r_sk rfl rfl <| r_sk rfl rfl <| r_pF rfl rfl rfl <| r_nx h33 <| c_cF rfl <| c_sk <| WE.blk_n <| WE.then_n h24 <| c_rg <| r_ad rfl rfl rfl (wadd64 (by omega)) <| r_mv rfl rfl <| r_nl ?_; rotate_left)
            exact WE.back (i + 1) ⟨by omega, fun j hj => by rcases Nat.lt_succ_iff_lt_or_eq.1 hj with h | rfl; exact hb j h; exact hin0⟩ (by omega) ⟨rfl, rfl, rfl, rfl, trivial⟩ Mem.drop
    · have : i = 28 := by omega
      subst this
      (refine c_sq fun k19 h19 => c_rg <| r_ltF rfl rfl rfl (by omega) <| r_nx h19 <| c_sq fun k21 h21 => c_cF rfl <| c_ex <| WE.then_x <| WE.then_x <| WE.blk_x ?_; rotate_left)
      exact WE.met () trivial ⟨rfl, by rw [doOf_no hb]; rfl, trivial⟩ Mem.keep
  · (refine c_sq fun k16 h16 => c_sq fun k18 h18 => c_rg <| r_mv rfl rfl <| r_nx h18 <| c_bl <| c_sq fun k20 h20 => c_rg <| r_eqC rfl rfl rfl (fun _ => ?_) (fun _ => ?_); refine r_as rfl rfl <| r_nx h20 <| c_cT rfl <| c_sq fun k23 h23 => c_rg <| r_as rfl rfl <| r_as rfl rfl <| r_nx h23 <| c_rt <| WE.blk_r <| WE.then_r <| WE.sc_r ?_; rotate_left; refine r_as rfl rfl <| r_nx h20 <| c_cF rfl <| c_sq fun k23 h23 => c_rg <| r_eqC rfl rfl rfl (fun _ => ?_) (fun _ => ?_); refine r_as rfl rfl <| r_nx h23 <| c_cT rfl <| c_sq fun k26 h26 => c_rg <| r_as rfl rfl <| r_as rfl rfl <| r_nx h26 <| c_rt <| WE.blk_r <| WE.then_r <| WE.sc_r ?_; rotate_left; refine r_as rfl rfl <| r_nx h23 <| c_cF rfl <| c_sq fun k26 h26 => c_rg <| r_eqC rfl rfl rfl (fun _ => ?_) (fun _ => ?_); refine r_as rfl rfl <| r_nx h26 <| c_cT rfl <| c_sq fun k29 h29 => c_rg <| r_bo Tryz.underlying47 rfl (fun _ => by kernel_rfl) rfl rfl rfl (fun _ => ?_); refine r_as rfl rfl <| r_as rfl rfl <| r_nx h29 <| c_rt <| WE.blk_r <| WE.then_r <| WE.sc_r ?_; rotate_left; refine r_as rfl rfl <| r_nx h26 <| c_cF rfl <| c_sq fun k29 h29 => c_rg <| r_eqC rfl rfl rfl (fun _ => ?_) (fun _ => ?_); refine r_as rfl rfl <| r_nx h29 <| c_cT rfl <| c_sq fun k32 h32 => c_rg <| r_mv rfl rfl <| r_su rfl rfl rfl (wsub32 (by omega)) ?_; rotate_left; refine r_as rfl rfl <| r_nx h29 <| c_cF rfl <| c_sq fun k32 h32 => c_rg <| r_eqC rfl rfl rfl (fun _ => ?_) (fun _ => ?_); refine r_as rfl rfl <| r_nx h32 <| c_cT rfl <| c_sq fun k35 h35 => c_rg <| r_bo Tryz.underlying47 rfl (fun _ => by kernel_rfl) rfl rfl rfl (fun _ => ?_); refine r_as rfl rfl <| r_as rfl rfl <| r_nx h35 <| c_rt <| WE.blk_r <| WE.then_r <| WE.sc_r ?_; rotate_left; refine r_as rfl rfl <| r_nx h32 <| c_cF rfl <| c_sk <| WE.blk_n <| WE.then_n h16 <| c_sq fun k35 h35 => c_rg <| r_mv rfl rfl <| r_mv rfl rfl <| r_ad rfl rfl rfl (wadd32 (by omega)) <| r_bo Tryz.underlying47 rfl (fun _ => by kernel_rfl) rfl rfl rfl (fun _ => ?_); refine r_as rfl rfl <| r_as rfl rfl <| r_nx h35 <| c_rt <| WE.sc_r ?_; rotate_left)
    · rename_i h
      have e : mapP c = ([], false) := by simp [mapP, map1, h]
      exact WE.ret2 (none, 0) rfl rfl rfl rfl (by rw [e]; rfl) trivial (by rw [e]; exact Mem.nilOwn _ _)
    · rename_i _ h
      have e : mapP c = ([], true) := by simp [mapP, map1, h]
      exact WE.ret2 (none, 0) rfl rfl rfl rfl (by rw [e]; rfl) trivial (by rw [e]; exact Mem.nilOwn _ _)
    · rename_i _ _ h b
      have e : mapP c = ([46], true) := by simp [mapP, map1, h]
      exact WE.ret2 (some ⟨b, 0, none⟩, 1) rfl rfl rfl rfl (by rw [e]; rfl) trivial (by rw [e]; exact Mem.keep)
    · rename_i _ _ _ h
      have hn := wide_narrow h
      have e : mapP c = mapP (c - 65248) := by simp [mapP, h, hn]
      refine WX.call (m1 := []) (m2 := []) rfl rfl rfl (hrec h) rfl rfl (fun p _ => ?_)
      (refine r_ex rfl rfl rfl <| r_ex rfl rfl rfl <| r_as rfl rfl <| r_as rfl rfl <| r_nx h32 <| c_rt <| WE.blk_r <| WE.then_r <| WE.sc_r ?_; rotate_left)
      exact WE.ret2 p rfl rfl rfl rfl (by rw [e]) trivial (by rw [e]; exact Mem.keep)
    · rename_i _ _ _ _ h b
      have e : mapP c = ([115, 115], true) := by simp [mapP, map1, h]
      exact WE.ret2 (some ⟨b, 0, none⟩, 2) rfl rfl rfl rfl (by rw [e]; rfl) trivial (by rw [e]; exact Mem.keep)
    · rename_i h1' h2' h3' h4' h5' b
      have e : mapP c = ([c + doOf c], true) := by simp [mapP, map1, h1', h2', h3', h4', h5']
      exact WE.ret2 (some ⟨b, 0, none⟩, 1) rfl rfl rfl rfl (by rw [e]; rfl) trivial (by rw [e]; exact Mem.keep)

/-- THE CONTRACT of fold.Map. -/
theorem map_spec (c : Int) (h1 : -2147483648 ≤ c) (h2 : c ≤ 2147483647) (w0 : World) (m0 : List Res) : MapS c w0 m0 :=
  map_gen c h1 h2 w0 m0 fun h => by
    have hb := (doOf_bd c h1 h2).2.2 h
    exact map_gen (c - 65248) (by omega) (by omega) w0 m0 fun h' => absurd h' (wide_narrow h)
end Go.Proofs.YtkggplnigjlegaaGreatDoor

/- What the document says of single code points, in plain Lean. -/
namespace Go.Proofs.YtkggplnigjlegaaGreatDoor
open Go.RowKit Go.Gp

/-- Is a number a scalar? -/
abbrev ScP (c : Int) : Prop := (0 ≤ c ∧ c ≤ 1114111) ∧ (c < 55296 ∨ c > 57343)
abbrev Bar1 (c : Int) : Prop := ¬ ScP c ∨ (128 ≤ c ∧ c ≤ 160) ∨ c = 5760 ∨ (8192 ≤ c ∧ c ≤ 8202) ∨ c = 8206 ∨ c = 8207
abbrev Bar2 (c : Int) : Prop := (8232 ≤ c ∧ c ≤ 8239) ∨ c = 8287 ∨ (8294 ≤ c ∧ c ≤ 8297) ∨ (57344 ≤ c ∧ c ≤ 63743) ∨ (64976 ≤ c ∧ c ≤ 65007) ∨ (65529 ≤ c ∧ c ≤ 65535) ∨ 917504 ≤ c
def barR (c : Int) : Bool := decide (Bar1 c ∨ Bar2 c)

theorem barR_t {c : Int} (h : Bar1 c ∨ Bar2 c) : barR c = true := decide_eq_true h
theorem barR_f {c : Int} (h : ¬ (Bar1 c ∨ Bar2 c)) : barR c = false := decide_eq_false h
/-- What the document maps a code point to. -/
def refMap1 (c : Int) : List Int :=
  if (65 ≤ c ∧ c ≤ 90) ∨ (192 ≤ c ∧ c ≤ 222 ∧ c ≠ 215) ∨ (913 ≤ c ∧ c ≤ 937 ∧ c ≠ 930) ∨ (1040 ≤ c ∧ c ≤ 1071) then [c + 32]
  else if 1024 ≤ c ∧ c ≤ 1039 then [c + 80] else if c = 7838 then [115, 115] else [c]
def refMap (c : Int) : List Int × Bool :=
  if barR c = true then ([], false) else if c = 173 ∨ c = 8203 ∨ c = 8288 ∨ c = 65279 then ([], true) else if c = 12290 ∨ c = 65377 then ([46], true)
  else (refMap1 (if 65281 ≤ c ∧ c ≤ 65374 then c - 65248 else c), true)
end Go.Proofs.YtkggplnigjlegaaGreatDoor

/- Small functions that a name meets: their contracts. -/
namespace Go.Proofs.YtkggplnigjlegaaGreatDoor
open Go.RowKit Go.Gp

set_option maxRecDepth 100000 in
theorem validRune_spec (c : Int) (w0 : World) (m0 : List Res) : PureC Tryz.prog 59 [.int .i32 c] w0 m0 (.bool (decide (ScP c))) := by
  refine Ct.of Tryz.func59 rfl (by kernel_rfl) rfl ?_
  (refine c_sq fun k4 h4 => c_rg <| r_as rfl rfl <| r_nx h4 <| c_sq fun k6 h6 => c_bl <| c_sq fun k8 h8 => c_rg <| r_mv rfl rfl <| r_leC rfl rfl rfl (fun _ => ?_) (fun _ => ?_); refine r_mv rfl rfl <| r_mv rfl rfl <| r_ltC rfl rfl rfl (fun _ => ?_) (fun _ => ?_); refine r_pT rfl rfl rfl <| r_as rfl rfl <| r_nx h8 <| c_cT rfl <| c_sq fun k12 h12 => c_rg <| r_as rfl rfl <| r_nx h12 <| c_rt <| WE.blk_r <| WE.then_r ?_; rotate_left; refine r_pT rfl rfl rfl <| r_as rfl rfl <| r_nx h8 <| c_cF rfl <| c_sq fun k12 h12 => c_rg <| r_mv rfl rfl <| r_ltC rfl rfl rfl (fun _ => ?_) (fun _ => ?_); refine r_mv rfl rfl <| r_mv rfl rfl <| r_leC rfl rfl rfl (fun _ => ?_) (fun _ => ?_); refine r_pT rfl rfl rfl <| r_as rfl rfl <| r_nx h12 <| c_cT rfl <| c_sq fun k16 h16 => c_rg <| r_as rfl rfl <| r_nx h16 <| c_rt <| WE.blk_r <| WE.then_r ?_; rotate_left; refine r_pT rfl rfl rfl <| r_as rfl rfl <| r_nx h12 <| c_cF rfl <| c_sk <| WE.blk_n <| WE.then_n h6 <| c_sq fun k16 h16 => c_rg <| r_as rfl rfl <| r_nx h16 <| c_rt ?_; rotate_left; refine r_mv rfl rfl <| r_sk rfl rfl <| r_sk rfl rfl <| r_pF rfl rfl rfl <| r_as rfl rfl <| r_nx h12 <| c_cF rfl <| c_sk <| WE.blk_n <| WE.then_n h6 <| c_sq fun k15 h15 => c_rg <| r_as rfl rfl <| r_nx h15 <| c_rt ?_; rotate_left; refine r_mv rfl rfl <| r_sk rfl rfl <| r_sk rfl rfl <| r_pF rfl rfl rfl <| r_as rfl rfl <| r_nx h8 <| c_cF rfl <| c_sq fun k11 h11 => c_rg <| r_mv rfl rfl <| r_ltF rfl rfl rfl (by omega) <| r_mv rfl rfl <| r_sk rfl rfl <| r_sk rfl rfl <| r_pF rfl rfl rfl <| r_as rfl rfl <| r_nx h11 <| c_cF rfl <| c_sk <| WE.blk_n <| WE.then_n h6 <| c_sq fun k13 h13 => c_rg <| r_as rfl rfl <| r_nx h13 <| c_rt ?_; rotate_left)
  all_goals
    first
    | exact WE.ret1 () rfl rfl (by rw [decide_eq_true (by omega : ScP c)]; rfl) trivial Mem.drop
    | exact WE.ret1 () rfl rfl (by rw [decide_eq_false (by omega : ¬ ScP c)]; rfl) trivial Mem.drop
/-- A predicate as a value: the function, what it closes over, and what it answers. -/
abbrev PredC (f : FuncId) (cs : List Value) (p : Int → Bool) (w0 : World) (m0 : List Res) : Prop := ∀ (c : Int) (m : List Res), PureC Tryz.prog f ([.int .i32 c] ++ cs) w0 (m ++ m0) (.bool (p c))
/-- The first place from i on. -/
def findFrom (p : Int → Bool) (l : List Int) : Int := match l.findIdx? p with | some i => i | none => -1
theorem findFrom_ge (p : Int → Bool) (l : List Int) : decide (0 ≤ findFrom p l) = l.any p := by
  unfold findFrom
  cases h : l.findIdx? p with
  | none =>
    rw [List.findIdx?_eq_none_iff] at h
    rw [Bool.eq_iff_iff]
    simp
    intro x hx
    exact by simpa using h x hx
  | some i =>
    have := List.findIdx?_eq_some_iff_getElem.1 h
    obtain ⟨hi, hp, _⟩ := this
    have h0 : (0 : Int) ≤ (i : Int) := by omega
    simp only [h0, decide_true]
    symm
    rw [List.any_eq_true]
    exact ⟨l[i], by simp, hp⟩
set_option maxRecDepth 100000 in
theorem indexFunc_spec (A : Option Addr) (c : Nat) (l : List Int) (f : FuncId) (cs : List Value) (p : Int → Bool) (hn : l.length ≤ 9000000000000000000) (w0 : World) (m0 : List Res) (hA : Rd w0 m0 A (runes l)) (hp : PredC f cs p w0 m0) :
    PureC Tryz.prog 86 [.slice A l.length c, .func (.func f) #[] cs.toArray] w0 m0 (.int .i64 (findFrom p l)) := by
  refine Ct.of Tryz.func86 rfl (by kernel_rfl) rfl ?_
  (refine c_sq fun k12 h12 => c_rg <| r_as rfl rfl <| r_nx h12 <| c_sq fun k14 h14 => c_sq fun k16 h16 => c_rg <| r_mv rfl rfl <| r_ls Tryz.underlying47 rfl rfl <| r_mv rfl rfl <| r_nx h16 <| c_bl ?_; rotate_left)
  refine WC.loop (α := Nat) (fun i => [(0, .slice A l.length c), (1, .func (.func f) #[] cs.toArray), (7, .int .i64 l.length), (8, .int .i64 i)]) (fun _ => []) (fun i => i ≤ l.length ∧ ∀ j, j < i → p (l.getD j 0) = false) (fun i => l.length - i) 0 ⟨by omega, by omega⟩ ⟨rfl, rfl, rfl, rfl, trivial⟩ Mem.keep ?_
  rintro i ⟨hi, hb⟩
  by_cases hlt : i < l.length
  · (refine c_sq fun k22 h22 => c_rg <| r_ltT rfl rfl rfl (by omega) <| r_nx h22 <| c_sq fun k24 h24 => c_cT rfl <| c_sk <| WE.then_n h24 <| c_sq fun k26 h26 => c_bl <| c_sq fun k28 h28 => c_rg <| r_mv rfl rfl <| r_as rfl rfl <| r_nx h28 <| c_sq fun k30 h30 => c_rg <| r_mv rfl rfl <| r_mv rfl rfl <| r_mv rfl rfl <| r_im (hA.app _) Tryz.underlying47 (by kernel_rfl) rfl rfl rfl rfl (by omega) (by omega) <| r_li (i) (hA.app _) Tryz.underlying21 rfl rfl rfl (by omega) ?_; rotate_left)
    have hq := fun m => hp (l.getD i 0) m
    rcases Bool.eq_false_or_eq_true (p (l.getD i 0)) with ht | ht
    · rw [ht] at hq
      refine WX.call (m1 := []) (m2 := []) rfl rfl rfl (hq []) rfl rfl (fun _ _ => ?_)
      (refine r_nx h30 <| c_cT rfl <| c_sq fun k37 h37 => c_rg <| r_mv rfl rfl <| r_as rfl rfl <| r_nx h37 <| c_rt <| WE.blk_r <| WE.then_r <| WE.then_r <| WE.blk_r <| WE.then_r ?_; rotate_left)
      exact WE.ret1 () rfl rfl (by
        have : l.findIdx? p = some i := by
          rw [List.findIdx?_eq_some_iff_getElem]
          refine ⟨hlt, by have := ht; simp [hlt] at this; exact this, fun j hj => ?_⟩
          have := hb j hj
          have hj' : j < l.length := by omega
          simp [hj'] at this
          simp [this]
        unfold findFrom
        rw [this]
        rfl) trivial Mem.drop
    · rw [ht] at hq
      refine WX.call (m1 := []) (m2 := []) rfl rfl rfl (hq []) rfl rfl (fun _ _ => ?_)
      (refine r_nx h30 <| c_cF rfl <| c_sk <| WE.blk_n <| WE.then_n h26 <| c_rg <| r_ad rfl rfl rfl (wadd64 (by omega)) <| r_mv rfl rfl <| r_nl ?_; rotate_left)
      exact WE.back (i + 1) ⟨by omega, fun j hj => by
        rcases Nat.lt_succ_iff_lt_or_eq.1 hj with h | h
        · exact hb j h
        · rw [h]; exact ht⟩ (by omega) ⟨rfl, rfl, rfl, rfl, trivial⟩ Mem.keep
  · (refine c_sq fun k22 h22 => c_rg <| r_ltF rfl rfl rfl (by omega) <| r_nx h22 <| c_sq fun k24 h24 => c_cF rfl <| c_ex <| WE.then_x <| WE.then_x <| WE.blk_x <| WE.then_n h14 <| c_sq fun k26 h26 => c_rg <| r_as rfl rfl <| r_nx h26 <| c_rt ?_; rotate_left)
    exact WE.ret1 () rfl rfl (by
      have : l.findIdx? p = none := by
        rw [List.findIdx?_eq_none_iff]
        intro x hx
        obtain ⟨j, hj, rfl⟩ := List.mem_iff_getElem.1 hx
        have := hb j (by omega)
        simp [hj] at this
        simp [this]
      unfold findFrom
      rw [this]
      rfl) trivial Mem.drop
set_option maxRecDepth 100000 in
theorem containsFunc_spec (A : Option Addr) (c : Nat) (l : List Int) (f : FuncId) (cs : List Value) (p : Int → Bool) (hn : l.length ≤ 9000000000000000000) (w0 : World) (m0 : List Res) (hA : Rd w0 m0 A (runes l)) (hp : PredC f cs p w0 m0) :
    PureC Tryz.prog 57 [.slice A l.length c, .func (.func f) #[] cs.toArray] w0 m0 (.bool (l.any p)) := by
  refine Ct.of Tryz.func57 rfl (by kernel_rfl) rfl ?_
  (refine c_sq fun k12 h12 => c_rg <| r_as rfl rfl <| r_nx h12 <| c_sq fun k14 h14 => c_rg <| r_mv rfl rfl <| r_mv rfl rfl ?_; rotate_left)
  refine WX.pure rfl rfl (indexFunc_spec A c l f cs p hn _ _ (hA.app _) (fun c m => by rw [← List.append_assoc]; exact hp c _)) rfl rfl ?_
  by_cases h : 0 ≤ findFrom p l
  · (refine r_geT rfl rfl rfl (by omega) <| r_as rfl rfl <| r_nx h14 <| c_rt ?_; rotate_left)
    exact WE.ret1 () rfl rfl (by rw [← findFrom_ge, decide_eq_true h]; rfl) trivial Mem.drop
  · (refine r_geF rfl rfl rfl (by omega) <| r_as rfl rfl <| r_nx h14 <| c_rt ?_; rotate_left)
    exact WE.ret1 () rfl rfl (by rw [← findFrom_ge, decide_eq_false h]; rfl) trivial Mem.drop

theorem notValid_spec (c : Int) (w0 : World) (m0 : List Res) : PureC Tryz.prog 58 [.int .i32 c] w0 m0 (.bool (!decide (ScP c))) := by
  refine Ct.of Tryz.func58 rfl (by kernel_rfl) rfl ?_
  (refine c_sq fun k4 h4 => c_rg <| r_as rfl rfl <| r_nx h4 <| c_sq fun k6 h6 => c_rg <| r_mv rfl rfl ?_; rotate_left)
  refine WX.pure rfl rfl (validRune_spec c _ _) rfl rfl ?_
  (refine r_no rfl rfl rfl <| r_as rfl rfl <| r_nx h6 <| c_rt ?_; rotate_left)
  exact WE.ret1 () rfl rfl rfl trivial Mem.drop
theorem notValid2_spec (c : Int) (w0 : World) (m0 : List Res) : PureC Tryz.prog 94 [.int .i32 c] w0 m0 (.bool (!decide (ScP c))) := by
  refine Ct.of Tryz.func94 rfl (by kernel_rfl) rfl ?_
  (refine c_sq fun k4 h4 => c_rg <| r_as rfl rfl <| r_nx h4 <| c_sq fun k6 h6 => c_rg <| r_mv rfl rfl ?_; rotate_left)
  refine WX.pure rfl rfl (validRune_spec c _ _) rfl rfl ?_
  (refine r_no rfl rfl rfl <| r_as rfl rfl <| r_nx h6 <| c_rt ?_; rotate_left)
  exact WE.ret1 () rfl rfl rfl trivial Mem.drop
theorem above_spec (c : Int) (w0 : World) (m0 : List Res) : PureC Tryz.prog 60 [.int .i32 c] w0 m0 (.bool (decide (128 ≤ c))) := by
  refine Ct.of Tryz.func60 rfl (by kernel_rfl) rfl ?_
  (refine c_sq fun k4 h4 => c_rg <| r_as rfl rfl <| r_nx h4 <| c_sq fun k6 h6 => c_rg <| r_mv rfl rfl <| r_geC rfl rfl rfl (fun _ => ?_) (fun _ => ?_); refine r_as rfl rfl <| r_nx h6 <| c_rt ?_; rotate_left; refine r_as rfl rfl <| r_nx h6 <| c_rt ?_; rotate_left)
  all_goals
    first
    | exact WE.ret1 () rfl rfl (by rw [decide_eq_true (by omega : 128 ≤ c)]; rfl) trivial Mem.drop
    | exact WE.ret1 () rfl rfl (by rw [decide_eq_false (by omega : ¬ 128 ≤ c)]; rfl) trivial Mem.drop
abbrev MarkP (l : List Int) : Prop := 0 < l.length ∧ 768 ≤ l.getD 0 0 ∧ l.getD 0 0 ≤ 879
set_option maxRecDepth 100000 in
theorem marked_spec (A : Option Addr) (c : Nat) (l : List Int) (w0 : World) (m0 : List Res) (hA : Rd w0 m0 A (runes l)) : PureC Tryz.prog 63 [.slice A l.length c] w0 m0 (.bool (decide (MarkP l))) := by
  refine Ct.of Tryz.func63 rfl (by kernel_rfl) rfl ?_
  by_cases h0 : 0 < l.length
  · (refine c_sq fun k8 h8 => c_rg <| r_as rfl rfl <| r_nx h8 <| c_sq fun k10 h10 => c_rg <| r_mv rfl rfl <| r_ls Tryz.underlying47 rfl rfl <| r_gtT rfl rfl rfl (by omega) <| r_mv rfl rfl <| r_mv rfl rfl <| r_im (hA.app _) Tryz.underlying47 (by kernel_rfl) rfl rfl rfl rfl (by omega) (by omega) <| r_li (0) (hA.app _) Tryz.underlying21 rfl rfl rfl (by omega) <| r_geC rfl rfl rfl (fun _ => ?_) (fun _ => ?_); refine r_pT rfl rfl rfl <| r_mv rfl rfl <| r_mv rfl rfl <| r_im (hA.app _) Tryz.underlying47 (by kernel_rfl) rfl rfl rfl rfl (by omega) (by omega) <| r_li (0) (hA.app _) Tryz.underlying21 rfl rfl rfl (by omega) <| r_leC rfl rfl rfl (fun _ => ?_) (fun _ => ?_); refine r_pT rfl rfl rfl <| r_as rfl rfl <| r_nx h10 <| c_rt ?_; rotate_left; refine r_pT rfl rfl rfl <| r_as rfl rfl <| r_nx h10 <| c_rt ?_; rotate_left; refine r_pT rfl rfl rfl <| r_mv rfl rfl <| r_sk rfl rfl <| r_sk rfl rfl <| r_sk rfl rfl <| r_sk rfl rfl <| r_pF rfl rfl rfl <| r_as rfl rfl <| r_nx h10 <| c_rt ?_; rotate_left)
    all_goals
      first
      | exact WE.ret1 () rfl rfl (by rw [decide_eq_true (by omega : MarkP l)]; rfl) trivial Mem.drop
      | exact WE.ret1 () rfl rfl (by rw [decide_eq_false (by omega : ¬ MarkP l)]; rfl) trivial Mem.drop
  · (refine c_sq fun k8 h8 => c_rg <| r_as rfl rfl <| r_nx h8 <| c_sq fun k10 h10 => c_rg <| r_mv rfl rfl <| r_ls Tryz.underlying47 rfl rfl <| r_gtF rfl rfl rfl (by omega) <| r_mv rfl rfl <| r_sk rfl rfl <| r_sk rfl rfl <| r_sk rfl rfl <| r_sk rfl rfl <| r_pF rfl rfl rfl <| r_mv rfl rfl <| r_sk rfl rfl <| r_sk rfl rfl <| r_sk rfl rfl <| r_sk rfl rfl <| r_pF rfl rfl rfl <| r_as rfl rfl <| r_nx h10 <| c_rt ?_; rotate_left)
    exact WE.ret1 () rfl rfl (by rw [decide_eq_false (by omega : ¬ MarkP l)]; rfl) trivial Mem.drop
/-- Does a text begin with another? -/
def preB (s p : ByteArray) : Bool := decide (p.size ≤ s.size) && decide (s.extract 0 p.size = p)
theorem hasPrefix0_spec (s p : ByteArray) (w0 : World) (m0 : List Res) : PureC Tryz.prog 52 [.string s, .string p] w0 m0 (.bool (preB s p)) := by
  refine Ct.of Tryz.func52 rfl (by kernel_rfl) rfl ?_
  by_cases h : p.size ≤ s.size
  · (refine c_sq fun k6 h6 => c_rg <| r_as rfl rfl <| r_nx h6 <| c_sq fun k8 h8 => c_rg <| r_mv rfl rfl <| r_lS Tryz.underlying9 rfl rfl <| r_mv rfl rfl <| r_lS Tryz.underlying9 rfl rfl <| r_geT rfl rfl rfl (by omega) <| r_mv rfl rfl <| r_mv rfl rfl <| r_mv rfl rfl <| r_lS Tryz.underlying9 rfl rfl ?_; rotate_left)
    refine r_sT Tryz.underlying9 rfl rfl (by omega) (by omega) rfl ?_
    (refine r_mv rfl rfl ?_; rotate_left)
    refine r_seq rfl rfl (fun _ => rfl) rfl ?_
    (refine r_pT rfl rfl rfl <| r_as rfl rfl <| r_nx h8 <| c_rt ?_; rotate_left)
    exact WE.ret1 () rfl rfl (by unfold preB; rw [decide_eq_true h, Bool.true_and]; rfl) trivial Mem.drop
  · (refine c_sq fun k6 h6 => c_rg <| r_as rfl rfl <| r_nx h6 <| c_sq fun k8 h8 => c_rg <| r_mv rfl rfl <| r_lS Tryz.underlying9 rfl rfl <| r_mv rfl rfl <| r_lS Tryz.underlying9 rfl rfl <| r_geF rfl rfl rfl (by omega) <| r_mv rfl rfl <| r_sk rfl rfl <| r_sk rfl rfl <| r_sk rfl rfl <| r_sk rfl rfl <| r_sk rfl rfl <| r_sk rfl rfl <| r_pF rfl rfl rfl <| r_as rfl rfl <| r_nx h8 <| c_rt ?_; rotate_left)
    exact WE.ret1 () rfl rfl (by unfold preB; rw [decide_eq_false h, Bool.false_and]; rfl) trivial Mem.drop
theorem hasPrefix_spec (s p : ByteArray) (w0 : World) (m0 : List Res) : PureC Tryz.prog 32 [.string s, .string p] w0 m0 (.bool (preB s p)) := by
  refine Ct.of Tryz.func32 rfl (by kernel_rfl) rfl ?_
  (refine c_sq fun k5 h5 => c_rg <| r_as rfl rfl <| r_nx h5 <| c_sq fun k7 h7 => c_rg <| r_mv rfl rfl <| r_mv rfl rfl ?_; rotate_left)
  refine WX.pure rfl rfl (hasPrefix0_spec s p _ _) rfl rfl ?_
  (refine r_as rfl rfl <| r_nx h7 <| c_rt ?_; rotate_left)
  exact WE.ret1 () rfl rfl rfl trivial Mem.drop
end Go.Proofs.YtkggplnigjlegaaGreatDoor

/- What a letter and a mark make: the contracts of fold.made, fold.runeAt, fold.pair. -/
namespace Go.Proofs.YtkggplnigjlegaaGreatDoor
open Go.RowKit Go.Gp

/-- What a letter makes with the marks, in turn. -/
def madeL (c : Int) : List Int :=
  if c = 97 then [224, 225, 226, 227, 228, 229, 0] else if c = 99 then [0, 0, 0, 0, 0, 0, 231] else if c = 101 then [232, 233, 234, 0, 235, 0, 0]
  else if c = 105 then [236, 237, 238, 0, 239, 0, 0] else if c = 110 then [0, 0, 0, 241, 0, 0, 0] else if c = 111 then [242, 243, 244, 245, 246, 0, 0]
  else if c = 117 then [249, 250, 251, 0, 252, 0, 0] else if c = 121 then [0, 253, 0, 0, 255, 0, 0] else [0, 0, 0, 0, 0, 0, 0]
theorem madeL_length (c : Int) : (madeL c).length = 7 := by unfold madeL; repeat' split <;> try rfl
theorem zero7 (w : World) : (zeroValue 133).run Tryz.prog w = .ok (.agg (runes [0, 0, 0, 0, 0, 0, 0]).toArray) w := by kernel_rfl

set_option maxRecDepth 100000 in
theorem made_spec (c : Int) (w0 : World) (m0 : List Res) : PureC Tryz.prog 115 [.int .i32 c] w0 m0 (.agg (runes (madeL c)).toArray) := by
  refine Ct.of Tryz.func115 rfl (by kernel_rfl) rfl ?_
  refine c_sq fun _ h => c_rg (r_al zero7 (cs := runes [0, 0, 0, 0, 0, 0, 0]) rfl rfl fun b => r_nx h ?_)
  (refine c_sq fun k7 h7 => c_sq fun k9 h9 => c_rg <| r_mv rfl rfl <| r_nx h9 <| c_bl <| c_sq fun k11 h11 => c_rg <| r_eqC rfl rfl rfl (fun _ => ?_) (fun _ => ?_); refine r_as rfl rfl <| r_nx h11 <| c_cT rfl <| c_sq fun k14 h14 => c_rg <| r_bd rfl (fun _ => by kernel_rfl) rfl <| r_sa 0 (by kernel_rfl) rfl rfl rfl rfl rfl rfl rfl <| r_nx h14 <| c_rt <| WE.blk_r <| WE.then_r ?_; rotate_left; refine r_as rfl rfl <| r_nx h11 <| c_cF rfl <| c_sq fun k14 h14 => c_rg <| r_eqC rfl rfl rfl (fun _ => ?_) (fun _ => ?_); refine r_as rfl rfl <| r_nx h14 <| c_cT rfl <| c_sq fun k17 h17 => c_rg ?_; rotate_left; refine r_as rfl rfl <| r_nx h14 <| c_cF rfl <| c_sq fun k17 h17 => c_rg <| r_eqC rfl rfl rfl (fun _ => ?_) (fun _ => ?_); refine r_as rfl rfl <| r_nx h17 <| c_cT rfl <| c_sq fun k20 h20 => c_rg ?_; rotate_left; refine r_as rfl rfl <| r_nx h17 <| c_cF rfl <| c_sq fun k20 h20 => c_rg <| r_eqC rfl rfl rfl (fun _ => ?_) (fun _ => ?_); refine r_as rfl rfl <| r_nx h20 <| c_cT rfl <| c_sq fun k23 h23 => c_rg ?_; rotate_left; refine r_as rfl rfl <| r_nx h20 <| c_cF rfl <| c_sq fun k23 h23 => c_rg <| r_eqC rfl rfl rfl (fun _ => ?_) (fun _ => ?_); refine r_as rfl rfl <| r_nx h23 <| c_cT rfl <| c_sq fun k26 h26 => c_rg ?_; rotate_left; refine r_as rfl rfl <| r_nx h23 <| c_cF rfl <| c_sq fun k26 h26 => c_rg <| r_eqC rfl rfl rfl (fun _ => ?_) (fun _ => ?_); refine r_as rfl rfl <| r_nx h26 <| c_cT rfl <| c_sq fun k29 h29 => c_rg ?_; rotate_left; refine r_as rfl rfl <| r_nx h26 <| c_cF rfl <| c_sq fun k29 h29 => c_rg <| r_eqC rfl rfl rfl (fun _ => ?_) (fun _ => ?_); refine r_as rfl rfl <| r_nx h29 <| c_cT rfl <| c_sq fun k32 h32 => c_rg ?_; rotate_left; refine r_as rfl rfl <| r_nx h29 <| c_cF rfl <| c_sq fun k32 h32 => c_rg <| r_eqC rfl rfl rfl (fun _ => ?_) (fun _ => ?_); refine r_as rfl rfl <| r_nx h32 <| c_cT rfl <| c_sq fun k35 h35 => c_rg ?_; rotate_left; refine r_as rfl rfl <| r_nx h32 <| c_cF rfl <| c_sk <| WE.blk_n <| WE.then_n h7 <| c_sq fun k35 h35 => c_rg ?_; rotate_left)
  · have e : madeL c = [224, 225, 226, 227, 228, 229, 0] := by unfold madeL; rw [if_pos (by assumption)]
    exact WE.retc (i := 0) (cs := runes [224, 225, 226, 227, 228, 229, 0]) () rfl rfl Tryz.underlying133 rfl (by kernel_rfl) rfl rfl (by rw [e]) trivial Mem.drop
  · have e : madeL c = [0, 0, 0, 0, 0, 0, 231] := by unfold madeL; rw [if_neg (by assumption)]; rw [if_pos (by assumption)]
    refine r_bu (v := .agg (runes [0, 0, 0, 0, 0, 0, 231]).toArray) rfl (fun _ => by kernel_rfl) rfl ?_
    refine r_sa 0 (us := runes [0, 0, 0, 0, 0, 0, 231]) (by kernel_rfl) rfl rfl rfl rfl rfl rfl rfl ?_
    (refine r_nx h17 <| c_rt <| WE.blk_r <| WE.then_r ?_; rotate_left)
    exact WE.retc (i := 0) (cs := runes [0, 0, 0, 0, 0, 0, 231]) () rfl rfl Tryz.underlying133 rfl (by kernel_rfl) rfl rfl (by rw [e]) trivial Mem.drop
  · have e : madeL c = [232, 233, 234, 0, 235, 0, 0] := by unfold madeL; rw [if_neg (by assumption)]; rw [if_neg (by assumption)]; rw [if_pos (by assumption)]
    refine r_bu (v := .agg (runes [232, 233, 234, 0, 235, 0, 0]).toArray) rfl (fun _ => by kernel_rfl) rfl ?_
    refine r_sa 0 (us := runes [232, 233, 234, 0, 235, 0, 0]) (by kernel_rfl) rfl rfl rfl rfl rfl rfl rfl ?_
    (refine r_nx h20 <| c_rt <| WE.blk_r <| WE.then_r ?_; rotate_left)
    exact WE.retc (i := 0) (cs := runes [232, 233, 234, 0, 235, 0, 0]) () rfl rfl Tryz.underlying133 rfl (by kernel_rfl) rfl rfl (by rw [e]) trivial Mem.drop
  · have e : madeL c = [236, 237, 238, 0, 239, 0, 0] := by unfold madeL; rw [if_neg (by assumption)]; rw [if_neg (by assumption)]; rw [if_neg (by assumption)]; rw [if_pos (by assumption)]
    refine r_bu (v := .agg (runes [236, 237, 238, 0, 239, 0, 0]).toArray) rfl (fun _ => by kernel_rfl) rfl ?_
    refine r_sa 0 (us := runes [236, 237, 238, 0, 239, 0, 0]) (by kernel_rfl) rfl rfl rfl rfl rfl rfl rfl ?_
    (refine r_nx h23 <| c_rt <| WE.blk_r <| WE.then_r ?_; rotate_left)
    exact WE.retc (i := 0) (cs := runes [236, 237, 238, 0, 239, 0, 0]) () rfl rfl Tryz.underlying133 rfl (by kernel_rfl) rfl rfl (by rw [e]) trivial Mem.drop
  · have e : madeL c = [0, 0, 0, 241, 0, 0, 0] := by unfold madeL; rw [if_neg (by assumption)]; rw [if_neg (by assumption)]; rw [if_neg (by assumption)]; rw [if_neg (by assumption)]; rw [if_pos (by assumption)]
    refine r_bu (v := .agg (runes [0, 0, 0, 241, 0, 0, 0]).toArray) rfl (fun _ => by kernel_rfl) rfl ?_
    refine r_sa 0 (us := runes [0, 0, 0, 241, 0, 0, 0]) (by kernel_rfl) rfl rfl rfl rfl rfl rfl rfl ?_
    (refine r_nx h26 <| c_rt <| WE.blk_r <| WE.then_r ?_; rotate_left)
    exact WE.retc (i := 0) (cs := runes [0, 0, 0, 241, 0, 0, 0]) () rfl rfl Tryz.underlying133 rfl (by kernel_rfl) rfl rfl (by rw [e]) trivial Mem.drop
  · have e : madeL c = [242, 243, 244, 245, 246, 0, 0] := by unfold madeL; rw [if_neg (by assumption)]; rw [if_neg (by assumption)]; rw [if_neg (by assumption)]; rw [if_neg (by assumption)]; rw [if_neg (by assumption)]; rw [if_pos (by assumption)]
    refine r_bu (v := .agg (runes [242, 243, 244, 245, 246, 0, 0]).toArray) rfl (fun _ => by kernel_rfl) rfl ?_
    refine r_sa 0 (us := runes [242, 243, 244, 245, 246, 0, 0]) (by kernel_rfl) rfl rfl rfl rfl rfl rfl rfl ?_
    (refine r_nx h29 <| c_rt <| WE.blk_r <| WE.then_r ?_; rotate_left)
    exact WE.retc (i := 0) (cs := runes [242, 243, 244, 245, 246, 0, 0]) () rfl rfl Tryz.underlying133 rfl (by kernel_rfl) rfl rfl (by rw [e]) trivial Mem.drop
  · have e : madeL c = [249, 250, 251, 0, 252, 0, 0] := by unfold madeL; rw [if_neg (by assumption)]; rw [if_neg (by assumption)]; rw [if_neg (by assumption)]; rw [if_neg (by assumption)]; rw [if_neg (by assumption)]; rw [if_neg (by assumption)]; rw [if_pos (by assumption)]
    refine r_bu (v := .agg (runes [249, 250, 251, 0, 252, 0, 0]).toArray) rfl (fun _ => by kernel_rfl) rfl ?_
    refine r_sa 0 (us := runes [249, 250, 251, 0, 252, 0, 0]) (by kernel_rfl) rfl rfl rfl rfl rfl rfl rfl ?_
    (refine r_nx h32 <| c_rt <| WE.blk_r <| WE.then_r ?_; rotate_left)
    exact WE.retc (i := 0) (cs := runes [249, 250, 251, 0, 252, 0, 0]) () rfl rfl Tryz.underlying133 rfl (by kernel_rfl) rfl rfl (by rw [e]) trivial Mem.drop
  · have e : madeL c = [0, 253, 0, 0, 255, 0, 0] := by unfold madeL; rw [if_neg (by assumption)]; rw [if_neg (by assumption)]; rw [if_neg (by assumption)]; rw [if_neg (by assumption)]; rw [if_neg (by assumption)]; rw [if_neg (by assumption)]; rw [if_neg (by assumption)]; rw [if_pos (by assumption)]
    refine r_bu (v := .agg (runes [0, 253, 0, 0, 255, 0, 0]).toArray) rfl (fun _ => by kernel_rfl) rfl ?_
    refine r_sa 0 (us := runes [0, 253, 0, 0, 255, 0, 0]) (by kernel_rfl) rfl rfl rfl rfl rfl rfl rfl ?_
    (refine r_nx h35 <| c_rt <| WE.blk_r <| WE.then_r ?_; rotate_left)
    exact WE.retc (i := 0) (cs := runes [0, 253, 0, 0, 255, 0, 0]) () rfl rfl Tryz.underlying133 rfl (by kernel_rfl) rfl rfl (by rw [e]) trivial Mem.drop
  · have e : madeL c = [0, 0, 0, 0, 0, 0, 0] := by unfold madeL; rw [if_neg (by assumption)]; rw [if_neg (by assumption)]; rw [if_neg (by assumption)]; rw [if_neg (by assumption)]; rw [if_neg (by assumption)]; rw [if_neg (by assumption)]; rw [if_neg (by assumption)]; rw [if_neg (by assumption)]
    refine r_bu (v := .agg (runes [0, 0, 0, 0, 0, 0, 0]).toArray) rfl (fun _ => by kernel_rfl) rfl ?_
    refine r_sa 0 (us := runes [0, 0, 0, 0, 0, 0, 0]) (by kernel_rfl) rfl rfl rfl rfl rfl rfl rfl ?_
    (refine r_nx h35 <| c_rt ?_; rotate_left)
    exact WE.retc (i := 0) (cs := runes [0, 0, 0, 0, 0, 0, 0]) () rfl rfl Tryz.underlying133 rfl (by kernel_rfl) rfl rfl (by rw [e]) trivial Mem.drop

def marksB : ByteArray := ⟨#[204, 128, 204, 129, 204, 130, 204, 131, 204, 136, 204, 138, 204, 167]⟩
def markN : List Nat := [768, 769, 770, 771, 776, 778, 807]
/-- Where a mark stands among all of them, two bytes each; -1: it is none. -/
def markAt (r : Int) : Int := if r = 768 then 0 else if r = 769 then 2 else if r = 770 then 4 else if r = 771 then 6 else if r = 776 then 8 else if r = 778 then 10 else if r = 807 then 12 else -1
theorem decode_marks (i : Nat) (h : i < 7) : Utf8.decode marksB (2 * i) = (markN.getD i 0, 2) := by
  have h' : i = 0 ∨ i = 1 ∨ i = 2 ∨ i = 3 ∨ i = 4 ∨ i = 5 ∨ i = 6 := by omega
  rcases h' with rfl | rfl | rfl | rfl | rfl | rfl | rfl <;> decide +kernel
theorem markAt_at {r : Int} {i : Nat} (h : i < 7) (e : ((markN.getD i 0 : Nat) : Int) = r) : markAt r = 2 * (i : Int) := by
  have h' : i = 0 ∨ i = 1 ∨ i = 2 ∨ i = 3 ∨ i = 4 ∨ i = 5 ∨ i = 6 := by omega
  rcases h' with rfl | rfl | rfl | rfl | rfl | rfl | rfl <;> (simp [markN] at e; subst e; decide)
theorem markAt_no {r : Int} (h : ∀ j, j < 7 → ((markN.getD j 0 : Nat) : Int) ≠ r) : markAt r = -1 := by
  have h0 := h 0 (by omega); have h1 := h 1 (by omega); have h2 := h 2 (by omega); have h3 := h 3 (by omega); have h4 := h 4 (by omega); have h5 := h 5 (by omega); have h6 := h 6 (by omega)
  simp [markN] at h0 h1 h2 h3 h4 h5 h6
  unfold markAt
  rw [if_neg (by omega), if_neg (by omega), if_neg (by omega), if_neg (by omega), if_neg (by omega), if_neg (by omega), if_neg (by omega)]
theorem markAt_bd (r : Int) : -1 ≤ markAt r ∧ markAt r ≤ 12 ∧ (0 ≤ markAt r → 768 ≤ r) ∧ (markAt r = -1 ∨ 0 ≤ markAt r) := by
  unfold markAt; repeat' split <;> omega

theorem runeAt_spec (r : Int) (w0 : World) (m0 : List Res) : PureC Tryz.prog 114 [.string marksB, .int .i32 r] w0 m0 (.int .i64 (markAt r)) := by
  refine Ct.of Tryz.func114 rfl (by kernel_rfl) rfl ?_
  (refine c_sq fun k4 h4 => c_rg <| r_as rfl rfl <| r_nx h4 <| c_sq fun k6 h6 => c_sq fun k8 h8 => c_rg <| r_mv rfl rfl <| r_rg Tryz.underlying9 rfl rfl (fun _ => ?_); refine r_nx h8 <| c_bl ?_; rotate_left)
  rename_i b
  refine WC.loop (α := Nat) (fun _ => [(1, .int .i32 r), (8, .pointer (some ⟨b, 0, none⟩))]) (fun i => [.obj b (.stringIter marksB (2 * i))]) (fun i => i ≤ 7 ∧ ∀ j, j < i → ((markN.getD j 0 : Nat) : Int) ≠ r) (fun i => 7 - i) 0 ⟨by omega, by omega⟩ ⟨rfl, rfl, trivial⟩ Mem.keep ?_
  rintro i ⟨hi, hb⟩
  by_cases hlt : i < 7
  · (refine c_sq fun k15 h15 => c_rg ?_; rotate_left)
    refine r_nT 0 (show 2 * i < 14 by omega) (decode_marks i hlt) rfl rfl rfl rfl ?_
    by_cases he : ((markN.getD i 0 : Nat) : Int) = r
    · (refine r_ex rfl rfl rfl <| r_nx h15 <| c_sq fun k18 h18 => c_cT rfl <| c_sk <| WE.then_n h18 <| c_bl <| c_sq fun k20 h20 => c_rg <| r_ex rfl rfl rfl <| r_ex rfl rfl rfl <| r_as rfl rfl <| r_as rfl rfl <| r_nx h20 <| c_sq fun k22 h22 => c_rg <| r_mv rfl rfl <| r_mv rfl rfl <| r_eqT rfl rfl rfl (by omega) <| r_nx h22 <| c_cT rfl <| c_sq fun k24 h24 => c_rg <| r_mv rfl rfl <| r_as rfl rfl <| r_nx h24 <| c_rt <| WE.blk_r <| WE.then_r <| WE.blk_r <| WE.then_r ?_; rotate_left)
      exact WE.ret1 () rfl rfl (by rw [markAt_at hlt he]; rfl) trivial Mem.drop
    · (refine r_ex rfl rfl rfl <| r_nx h15 <| c_sq fun k18 h18 => c_cT rfl <| c_sk <| WE.then_n h18 <| c_bl <| c_sq fun k20 h20 => c_rg <| r_ex rfl rfl rfl <| r_ex rfl rfl rfl <| r_as rfl rfl <| r_as rfl rfl <| r_nx h20 <| c_sq fun k22 h22 => c_rg <| r_mv rfl rfl <| r_mv rfl rfl <| r_eqF rfl rfl rfl (by omega) <| r_nx h22 <| c_cF rfl <| c_sk <| WE.blk_n ?_; rotate_left)
      exact WE.back (i + 1) ⟨by omega, fun j hj => by rcases Nat.lt_succ_iff_lt_or_eq.1 hj with h | rfl; exact hb j h; exact he⟩ (by omega) ⟨rfl, rfl, trivial⟩ Mem.keep
  · have h7 : i = 7 := by omega
    (refine c_sq fun k16 h16 => c_rg ?_; rotate_left)
    refine r_nF 0 (show ¬ 2 * i < 14 by omega) rfl rfl rfl ?_
    (refine r_ex rfl rfl rfl <| r_nx h16 <| c_sq fun k18 h18 => c_cF rfl <| c_ex <| WE.then_x <| WE.then_x <| WE.blk_x <| WE.then_n h6 <| c_sq fun k20 h20 => c_rg <| r_as rfl rfl <| r_nx h20 <| c_rt ?_; rotate_left)
    exact WE.ret1 () rfl rfl (by rw [markAt_no (fun j hj => hb j (by omega))]; rfl) trivial Mem.drop

theorem index7 (l : List Int) (hl : l.length = 7) (i : Nat) (h : i < 7) (w : World) : (Instr.index 133 (.agg (runes l).toArray) (.int .i64 i)).run Tryz.prog w = .ok (.int .i32 (l.getD i 0)) w := by
  match l, hl with
  | [a0, a1, a2, a3, a4, a5, a6], _ =>
    have h' : i = 0 ∨ i = 1 ∨ i = 2 ∨ i = 3 ∨ i = 4 ∨ i = 5 ∨ i = 6 := by omega
    rcases h' with rfl | rfl | rfl | rfl | rfl | rfl | rfl
    all_goals (show _ = _; kernel_rfl)

/-- What a letter and a mark make, or 0. -/
def pairR (c mark : Int) : Int := if markAt mark < 0 then 0 else (madeL c).getD (markAt mark / 2).toNat 0
theorem pair_spec (c r : Int) (w0 : World) (m0 : List Res) : PureC Tryz.prog 85 [.int .i32 c, .int .i32 r] w0 m0 (.int .i32 (pairR c r)) := by
  have hbd := markAt_bd r
  refine Ct.of Tryz.func85 rfl (by kernel_rfl) rfl ?_
  (refine c_sq fun k6 h6 => c_rg <| r_as rfl rfl <| r_nx h6 <| c_sq fun k8 h8 => c_rg <| r_mv rfl rfl ?_; rotate_left)
  refine WX.pure rfl rfl (runeAt_spec r _ _) rfl rfl ?_
  by_cases h0 : markAt r < 0
  · (refine r_as rfl rfl <| r_nx h8 <| c_sq fun k11 h11 => c_sq fun k13 h13 => c_rg <| r_mv rfl rfl <| r_ltC rfl rfl rfl (fun _ => ?_) (fun _ => ?_); refine r_mv rfl rfl <| r_sk rfl rfl <| r_sk rfl rfl <| r_pT rfl rfl rfl <| r_nx h13 <| c_cT rfl <| c_sq fun k16 h16 => c_rg <| r_as rfl rfl <| r_nx h16 <| c_rt <| WE.then_r ?_; rotate_left; refine r_mv rfl rfl <| r_mv rfl rfl <| r_ltT rfl rfl rfl (by omega) <| r_pF rfl rfl rfl <| r_nx h13 <| c_cT rfl <| c_sq fun k16 h16 => c_rg <| r_as rfl rfl <| r_nx h16 <| c_rt <| WE.then_r ?_; rotate_left)
    all_goals exact WE.ret1 () rfl rfl (by rw [pairR, if_pos h0]; rfl) trivial Mem.drop
  · (refine r_as rfl rfl <| r_nx h8 <| c_sq fun k11 h11 => c_sq fun k13 h13 => c_rg <| r_mv rfl rfl <| r_ltF rfl rfl rfl (by omega) <| r_mv rfl rfl <| r_mv rfl rfl <| r_ltF rfl rfl rfl (by omega) <| r_pF rfl rfl rfl <| r_nx h13 <| c_cF rfl <| c_sk <| WE.then_n h11 <| c_sq fun k15 h15 => c_rg <| r_mv rfl rfl ?_; rotate_left)
    refine WX.pure rfl rfl (made_spec c _ _) rfl rfl ?_
    obtain ⟨i, hi⟩ : ∃ i : Nat, markAt r / 2 = i := ⟨(markAt r / 2).toNat, by omega⟩
    (refine r_mv rfl rfl <| r_qu rfl rfl rfl (by omega) (wquo64 (by omega)) ?_; rotate_left)
    refine r_ix rfl rfl (by rw [hi]; exact index7 (madeL c) (madeL_length c) i (by omega)) rfl ?_
    (refine r_as rfl rfl <| r_nx h15 <| c_rt ?_; rotate_left)
    exact WE.ret1 () rfl rfl (by rw [pairR, if_neg h0, hi]; rfl) trivial Mem.drop
end Go.Proofs.YtkggplnigjlegaaGreatDoor

/- Letters and marks put together: the contracts of fold.Compose and its closure. -/
namespace Go.Proofs.YtkggplnigjlegaaGreatDoor
open Go.RowKit Go.Gp

/-- One more code point behind what is there. -/
def addR (xs : List Int) (c : Int) : List Int := if 0 < xs.length ∧ pairR (xs.getD (xs.length - 1) 0) c ≠ 0 then xs.set (xs.length - 1) (pairR (xs.getD (xs.length - 1) 0) c) else xs ++ [c]
def compR (l : List Int) : List Int := l.foldl addR []
theorem addR_length (xs : List Int) (c : Int) : (addR xs c).length ≤ xs.length + 1 := by unfold addR; split <;> simp
theorem addR_some (xs : List Int) (c : Int) : 0 < (addR xs c).length := by
  unfold addR
  split
  · rename_i h; simpa using h.1
  · simp
abbrev OutB (g : Nat) (p : Option Addr × Nat) (xs : List Int) : Res := .blk g [SlR p xs] 47

set_option maxRecDepth 100000 in
theorem add_spec (c : Int) (g : Nat) (p : Option Addr × Nat) (xs : List Int) (hn : xs.length ≤ 1000000000000) (w0 : World) (m0 : List Res) :
    Ct (α := Option Addr × Nat) Tryz.prog 84 [.int .i32 c, .pointer (some ⟨g, 0, none⟩)] w0 [OutB g p xs, OwnR p xs] m0 (fun _ => True) (fun _ => .tuple #[]) (fun p => [OutB g p (addR xs c), OwnR p (addR xs c)]) := by
  refine Ct.of Tryz.func84 rfl (by kernel_rfl) rfl ?_
  by_cases h0 : 0 < xs.length
  · obtain ⟨j, hj⟩ : ∃ j : Nat, xs.length = j + 1 := ⟨xs.length - 1, by omega⟩
    have hj' : (xs.length : Int) - 1 = (j : Int) := by omega
    (refine c_sq fun k12 h12 => c_sq fun k14 h14 => c_rg <| r_lb 0 Tryz.underlying47 rfl rfl rfl rfl rfl <| r_ls Tryz.underlying47 rfl rfl <| r_su rfl rfl rfl (wsub64 (by omega)) <| r_as rfl rfl <| r_nx h14 <| c_sq fun k16 h16 => c_rg <| r_mv rfl rfl <| r_geT rfl rfl rfl (by omega) <| r_nx h16 <| c_cT rfl <| c_sq fun k18 h18 => c_rg <| r_lb 0 Tryz.underlying47 rfl rfl rfl rfl rfl <| r_mv rfl rfl <| r_im (Rd.own 1 rfl) Tryz.underlying47 (by kernel_rfl) rfl rfl rfl rfl (by omega) (by omega) ?_; rotate_left)
    rw [hj']
    refine r_li j (Rd.own 1 rfl) Tryz.underlying21 rfl rfl rfl (by omega) ?_
    (refine r_mv rfl rfl ?_; rotate_left)
    refine WX.pure rfl rfl (pair_spec (xs.getD j 0) c _ _) rfl rfl ?_
    by_cases hx : pairR (xs.getD j 0) c = 0
    · have e : addR xs c = xs ++ [c] := by unfold addR; rw [if_neg (by rw [hj]; simp only [Nat.add_sub_cancel]; exact fun h => h.2 hx)]
      rw [hx]
      (refine r_as rfl rfl <| r_nx h18 <| c_sq fun k22 h22 => c_rg <| r_mv rfl rfl <| r_neF rfl rfl rfl (by omega) <| r_nx h22 <| c_cF rfl <| c_sk <| WE.then_n h12 <| c_rg <| r_lb 0 Tryz.underlying47 rfl rfl rfl rfl rfl <| r_mv rfl rfl <| r_bo Tryz.underlying47 rfl (fun _ => by kernel_rfl) rfl rfl rfl (fun _ => ?_); rotate_left)
      rename_i b
      refine r_am (ys := [c]) 2 (z := .int .i32 0) (by_ := 4) (f := (.int .i32 ·)) Tryz.underlying47 (by kernel_rfl) rfl rfl rfl rfl (Rd.own 0 rfl) rfl (fun _ => rfl) (by omega) rfl (fun q _ => ?_)
      (refine r_st 1 (by kernel_rfl) rfl rfl rfl rfl rfl rfl rfl <| r_nl ?_; rotate_left)
      exact WE.end0 q rfl rfl rfl trivial (by rw [e]; exact Mem.pick [1, 2] (by decide) rfl)
    · have e : addR xs c = xs.set j (pairR (xs.getD j 0) c) := by unfold addR; rw [if_pos (by rw [hj]; simp only [Nat.add_sub_cancel]; exact ⟨by omega, hx⟩), hj, Nat.add_sub_cancel]
      (refine r_as rfl rfl <| r_nx h18 <| c_sq fun k22 h22 => c_rg <| r_mv rfl rfl <| r_neT rfl rfl rfl (by omega) <| r_nx h22 <| c_cT rfl <| c_sq fun k24 h24 => c_rg <| r_lb 0 Tryz.underlying47 rfl rfl rfl rfl rfl <| r_mv rfl rfl <| r_mv rfl rfl <| r_im (Rd.own 1 rfl) Tryz.underlying47 (by kernel_rfl) rfl rfl rfl rfl (by omega) (by omega) ?_; rotate_left)
      refine r_so 1 j (by kernel_rfl) rfl rfl rfl rfl (by omega) rfl rfl ?_
      (refine r_nx h24 <| c_rt <| WE.then_r ?_; rotate_left)
      refine WE.ret0 p rfl rfl rfl trivial (fun w hw => ?_)
      rw [e]
      show Mem _ ([.blk g [.slice p.1 (xs.set j (pairR (xs.getD j 0) c)).length p.2] _, .own p.1 p.2 (xs.set j (pairR (xs.getD j 0) c)).length (runes (xs.set j (pairR (xs.getD j 0) c))) _ 1] ++ _) w
      rw [List.length_set, runes, List.map_set]
      exact hw
  · have hnil : xs = [] := List.eq_nil_of_length_eq_zero (by omega)
    subst hnil
    (refine c_sq fun k10 h10 => c_sq fun k12 h12 => c_rg <| r_lb 0 Tryz.underlying47 rfl rfl rfl rfl rfl <| r_ls Tryz.underlying47 rfl rfl <| r_su rfl rfl rfl (wsub64 (by omega)) <| r_as rfl rfl <| r_nx h12 <| c_sq fun k14 h14 => c_rg <| r_mv rfl rfl <| r_geF rfl rfl rfl (by omega) <| r_nx h14 <| c_cF rfl <| c_sk <| WE.then_n h10 <| c_rg <| r_lb 0 Tryz.underlying47 rfl rfl rfl rfl rfl <| r_mv rfl rfl <| r_bo Tryz.underlying47 rfl (fun _ => by kernel_rfl) rfl rfl rfl (fun _ => ?_); rotate_left)
    refine r_am (ys := [c]) 2 (z := .int .i32 0) (by_ := 4) (f := (.int .i32 ·)) Tryz.underlying47 (by kernel_rfl) rfl rfl rfl rfl (Rd.own 0 rfl) rfl (fun _ => rfl) (by simp) rfl (fun q _ => ?_)
    (refine r_st 1 (by kernel_rfl) rfl rfl rfl rfl rfl rfl rfl <| r_nl ?_; rotate_left)
    exact WE.end0 q rfl rfl rfl trivial (Mem.pick [1, 2] (by decide) rfl)

theorem compR_snoc (l : List Int) (c : Int) : compR (l ++ [c]) = addR (compR l) c := by simp [compR]
theorem foldl_addR_length (l : List Int) : ∀ acc : List Int, (l.foldl addR acc).length ≤ acc.length + l.length := by
  induction l with
  | nil => intro acc; simp
  | cons c l ih =>
    intro acc
    have h1 := ih (addR acc c)
    have h2 := addR_length acc c
    simp only [List.foldl_cons, List.length_cons]
    omega
theorem compR_length (l : List Int) : (compR l).length ≤ l.length := by
  have := foldl_addR_length l []
  simpa [compR] using this
theorem take_next {l : List Int} {i : Nat} (h : i < l.length) : l.take (i + 1) = l.take i ++ [l.getD i 0] := by
  rw [List.take_succ_eq_append_getElem h]
  simp [h]
set_option maxRecDepth 100000 in
theorem compose_spec (A : Option Addr) (c : Nat) (l : List Int) (hn : l.length ≤ 1000000000000) (w0 : World) (m0 : List Res) (hA : Rd w0 m0 A (runes l)) :
    Ct (α := Option Addr × Nat) Tryz.prog 54 [.slice A l.length c] w0 [] m0 (fun _ => True) (fun p => SlR p (compR l)) (fun p => [OwnR p (compR l)]) := by
  refine Ct.of Tryz.func54 rfl (by kernel_rfl) rfl ?_
  (refine c_sq fun k8 h8 => c_rg <| r_as rfl rfl <| r_nx h8 <| c_sq fun k10 h10 => c_rg <| r_al (z := .slice none 0 0) (cs := [.slice none 0 0]) (fun _ => by kernel_rfl) rfl rfl (fun _ => ?_); refine r_nx h10 <| c_sq fun k13 h13 => c_rg <| r_fn rfl rfl <| r_as rfl rfl <| r_nx h13 <| c_sq fun k15 h15 => c_sq fun k17 h17 => c_rg <| r_mv rfl rfl <| r_ls Tryz.underlying47 rfl rfl <| r_mv rfl rfl <| r_nx h17 <| c_bl ?_; rotate_left)
  rename_i g
  refine WC.loop (α := Nat × (Option Addr × Nat)) (fun x => [(8, .slice A l.length c), (9, .int .i64 l.length), (10, .int .i64 x.1), (4, .func (.func 84) #[] #[.pointer (some ⟨g, 0, none⟩)]), (3, .pointer (some ⟨g, 0, none⟩))])
    (fun x => [OutB g x.2 (compR (l.take x.1)), OwnR x.2 (compR (l.take x.1))]) (fun x => x.1 ≤ l.length) (fun x => l.length - x.1) (0, (none, 0)) (by simp) ⟨rfl, rfl, rfl, rfl, rfl, trivial⟩ (fun w hw => Mem.pick [1, 0] (by decide) rfl w (Mem.addNil _ _ w hw)) ?_
  rintro ⟨i, p⟩ hi
  dsimp only at hi ⊢
  by_cases hlt : i < l.length
  · (refine c_sq fun k23 h23 => c_rg <| r_ltT rfl rfl rfl (by omega) <| r_nx h23 <| c_sq fun k25 h25 => c_cT rfl <| c_sk <| WE.then_n h25 <| c_sq fun k27 h27 => c_bl <| c_sq fun k29 h29 => c_rg <| r_im (hA.app _) Tryz.underlying47 (by kernel_rfl) rfl rfl rfl rfl (by omega) (by omega) <| r_li (i) (hA.app _) Tryz.underlying21 rfl rfl rfl (by omega) <| r_as rfl rfl <| r_nx h29 <| c_rg <| r_mv rfl rfl <| r_mv rfl rfl ?_; rotate_left)
    have hc := compR_length (l.take i)
    have hc' : (l.take i).length ≤ i := List.length_take_le _ _
    refine WX.call (m1 := [OutB g p (compR (l.take i)), OwnR p (compR (l.take i))]) (m2 := []) rfl rfl rfl (add_spec (l.getD i 0) g p (compR (l.take i)) (by omega) _ _) rfl rfl (fun q _ => ?_)
    rw [← compR_snoc, ← take_next hlt]
    (refine r_nl <| WE.blk_n <| WE.then_n h27 <| c_rg <| r_ad rfl rfl rfl (wadd64 (by omega)) <| r_mv rfl rfl <| r_nl ?_; rotate_left)
    exact WE.back (i + 1, q) (by dsimp only; omega) (by dsimp only; omega) ⟨rfl, rfl, rfl, rfl, rfl, trivial⟩ Mem.keep
  · have e : l.take i = l := List.take_of_length_le (by omega)
    rw [e]
    (refine c_sq fun k24 h24 => c_rg <| r_ltF rfl rfl rfl (by omega) <| r_nx h24 <| c_sq fun k26 h26 => c_cF rfl <| c_ex <| WE.then_x <| WE.then_x <| WE.blk_x <| WE.then_n h15 <| c_sq fun k28 h28 => c_rg <| r_lb 0 Tryz.underlying47 rfl rfl rfl rfl rfl <| r_as rfl rfl <| r_nx h28 <| c_rt ?_; rotate_left)
    exact WE.ret1 p rfl rfl rfl trivial (Mem.pick [1] (by decide) rfl)
end Go.Proofs.YtkggplnigjlegaaGreatDoor
