import Derived.WalkKit
import Derived.WalkSpells
import Derived.WalkLawsBesides
namespace Go.Gp
open Go.RowKit

section
variable {P : Program}

theorem run_storeVar_row (w : World) (g : Nat) (ty t : TypeId) (old cs : Array Value) (hg : w.heap[g]? = some (.cells old t (0, 0))) (hl : old.size = cs.size)
    (hi : (P.info? ty).map (·.size) = some cs.size) (h1 : ∀ v ∈ cs.toList, v.oneCell' = true) :
    (storeVar ty ⟨g, 0, none⟩ (.agg cs)).run P w = .ok () (w.setRow g cs) := by
  cases hq : P.info? ty with
  | none => simp [hq] at hi
  | some i =>
    have hs : i.size = cs.size := by simpa [hq] using hi
    have hst := run_storeCells_from (P := P) g t cs.toList 0 old w hg (by simp [hl]) h1
    simp only [List.take_zero, List.nil_append, Array.toArray_toList] at hst
    simp [storeVar, Value.cells, sizeOf, typeInfo, hq, hs, Sem.run_bind, hst]

theorem setRow_alloc (w : World) (old cs : Array Value) (t : TypeId) : (w.alloc (.cells old t)).setRow w.heap.size cs = w.alloc (.cells cs t) := by
  unfold World.setRow World.alloc
  congr 1
  apply Array.ext
  · simp
  · intro i h1 h2
    simp only [Array.getElem_modify, Array.getElem_push]
    have h3 : i < w.heap.size + 1 := by simpa using h2
    by_cases hi : i = w.heap.size
    · subst hi; simp
    · rw [if_neg (by omega)]
      have h4 : i < w.heap.size := by omega
      simp [h4]

theorem wp_store_new {o : Oper} {a : Act} {w : World} {K : Act → World → Prop} {Q : Exit → Act → World → Prop} (ty : TypeId) (x y : Operand) (ho : o.op = .store ty x y)
    (hx : a.eval x = .pointer (some ⟨w.heap.size, 0, none⟩)) (t : TypeId) (old cs : Array Value) (hy : a.eval y = .agg cs) (hl : old.size = cs.size)
    (hi : (P.info? ty).map (·.size) = some cs.size) (h1 : ∀ v ∈ cs.toList, v.oneCell' = true)
    (h : K (a.put o.dst undef) (w.alloc (.cells cs t))) : o.wp P a (w.alloc (.cells old t)) K Q := by
  unfold Oper.wp execOp
  have hr := run_storeVar_row (P := P) (w.alloc (.cells old t)) w.heap.size ty t old cs (heap_alloc_new w _) hl hi h1
  rw [setRow_alloc] at hr
  simp only [ho, hx, hy, Instr.storeAt, Instr.sureAddr, Sem.run_bind, Sem.run_pure, Result.andThen_ok, hr]
  exact h

theorem wpList_store_new {ops : Array Oper} {rest : List Oper} {o : Oper} {a : Act} {w : World} {Q : Exit → Act → World → Prop} (hgd : o.guard = none) (ty : TypeId) (x y : Operand) (ho : o.op = .store ty x y)
    (hx : a.eval x = .pointer (some ⟨w.heap.size, 0, none⟩)) (t : TypeId) (old cs : Array Value) (hy : a.eval y = .agg cs) (hl : old.size = cs.size)
    (hi : (P.info? ty).map (·.size) = some cs.size) (h1 : ∀ v ∈ cs.toList, v.oneCell' = true)
    (h : wpList P ops Q rest (a.put o.dst undef) (w.alloc (.cells cs t))) : wpList P ops Q (o :: rest) a (w.alloc (.cells old t)) :=
  wpList_plain hgd fun _ hK => wp_store_new ty x y ho hx t old cs hy hl hi h1 (hK _ _ h)
end
end Go.Gp
