/- A list cut at a number, in plain Lean; readable slices cut; memory in another order; errors that may be read. -/
import Derived.Test.YthnabbidlmihbaaRange
import Derived.Test.YthnabbidlmihbaaIndex
import Derived.Test.YthnabbidlmihbaaInsert
import Derived.Test.YthnabbidlmihbaaRowOps
import Derived.Test.YthnabbidlmihbaaErr
set_option linter.unusedVariables false
namespace Go.Proofs.Ythnabbidlmihbaa
open Go.RowKit Go.Gp

/-- A list cut at every v. -/
def splitP (v : Int) : List Int → List (List Int)
  | [] => [[]]
  | x :: r => if v = x then [] :: splitP v r else match splitP v r with | [] => [[x]] | p :: ps => (x :: p) :: ps
theorem splitP_ne (v : Int) (l : List Int) : splitP v l ≠ [] := by
  cases l with
  | nil => simp [splitP]
  | cons x r =>
    rw [splitP]
    split
    · simp
    · split <;> simp
theorem idxP_cons (v x : Int) (r : List Int) : idxP v (x :: r) = if v = x then 0 else if idxP v r < 0 then -1 else idxP v r + 1 := by
  unfold idxP findFrom
  rw [List.findIdx?_cons]
  by_cases h : v = x
  · simp [h]
  · simp only [h, decide_false, Bool.false_eq_true, if_false]
    cases hr : r.findIdx? (fun c => decide (v = c)) with
    | none => simp
    | some i =>
      simp only [Option.map_some]
      rw [if_neg (by omega)]
      simp
theorem splitP_no (v : Int) : ∀ l : List Int, idxP v l < 0 → splitP v l = [l]
  | [], _ => rfl
  | x :: r, h => by
    rw [idxP_cons] at h
    split at h
    · omega
    · rename_i hx
      split at h
      · rename_i hr
        rw [splitP, if_neg hx, splitP_no v r hr]
      · omega
theorem splitP_at (v : Int) : ∀ l : List Int, 0 ≤ idxP v l → (idxP v l).toNat < l.length ∧ splitP v l = l.take (idxP v l).toNat :: splitP v (l.drop ((idxP v l).toNat + 1))
  | [], h => by simp [idxP, findFrom] at h
  | x :: r, h => by
    rw [idxP_cons] at h ⊢
    by_cases hx : v = x
    · simp only [hx, if_true]
      refine ⟨by simp, ?_⟩
      rw [splitP, if_pos rfl]
      rfl
    · rw [if_neg hx] at h ⊢
      by_cases hr : idxP v r < 0
      · rw [if_pos hr] at h
        omega
      · rw [if_neg hr] at h ⊢
        obtain ⟨h1, h2⟩ := splitP_at v r (by omega)
        have e : (idxP v r + 1).toNat = (idxP v r).toNat + 1 := by omega
        rw [e]
        refine ⟨by rw [List.length_cons]; omega, ?_⟩
        rw [splitP, if_neg hx, h2]
        rfl
theorem idxP_bd (v : Int) (l : List Int) : -1 ≤ idxP v l ∧ idxP v l < l.length := by
  unfold idxP findFrom
  cases hr : l.findIdx? (fun c => decide (v = c)) with
  | none => simp only; omega
  | some i =>
    have := (List.findIdx?_eq_some_iff_getElem.1 hr).1
    simp only
    omega
theorem splitP_len (v : Int) (l : List Int) : (splitP v l).length ≤ l.length + 1 ∧ ∀ p ∈ splitP v l, p.length ≤ l.length ∧ ∀ x ∈ p, x ∈ l := by
  induction l with
  | nil => simp [splitP]
  | cons x r ih =>
    obtain ⟨h1, h2⟩ := ih
    rw [splitP]
    split
    · refine ⟨by simp; omega, fun p hp => ?_⟩
      rcases List.mem_cons.1 hp with hp | hp
      · subst hp; simp
      · have := h2 p hp
        exact ⟨by simp; omega, fun y hy => List.mem_cons_of_mem _ (this.2 y hy)⟩
    · split
      · rename_i hs
        exact absurd hs (splitP_ne v r)
      · rename_i p ps hs
        rw [hs] at h1 h2
        refine ⟨by simp at h1 ⊢; omega, fun q hq => ?_⟩
        rcases List.mem_cons.1 hq with hq | hq
        · subst hq
          have := h2 p (by simp)
          refine ⟨by simp; omega, fun y hy => ?_⟩
          rcases List.mem_cons.1 hy with hy | hy
          · simp [hy]
          · exact List.mem_cons_of_mem _ (this.2 y hy)
        · have := h2 q (by simp [hq])
          exact ⟨by simp; omega, fun y hy => List.mem_cons_of_mem _ (this.2 y hy)⟩

/-- A part of a slice that can be read. -/
def subA (A : Option Addr) (lo c : Nat) : Option Addr := if c = lo then A else A.map (·.add (lo * 1))
theorem sliced_sub (A : Option Addr) (lo hi c : Nat) : sliced A lo hi c 1 = .slice (subA A lo c) (hi - lo) (c - lo) := rfl
theorem _root_.Go.Gp.Rd.sub {w0 : World} {m : List Res} {A : Option Addr} {xs : List Value} (h : Rd w0 m A xs) (lo k c : Nat) (hc : xs.length ≤ c) : Rd w0 m (subA A lo c) ((xs.drop lo).take k) := by
  unfold Rd at h ⊢
  intro w hw j v hj
  have hjk : j < k := by
    have := (List.getElem?_eq_some_iff.1 hj).1
    simp at this
    omega
  have h2 : xs[lo + j]? = some v := by
    rw [List.getElem?_take_of_lt hjk, List.getElem?_drop] at hj
    exact hj
  obtain ⟨a, ha, hcell⟩ := h w hw (lo + j) v h2
  have hlt := (List.getElem?_eq_some_iff.1 h2).1
  unfold subA
  rw [if_neg (by omega)]
  exact ⟨a.add (lo * 1), by rw [ha]; rfl, by rw [Addr.add_add, Nat.mul_one]; exact hcell⟩
theorem _root_.Go.Gp.Rd.mono {w0 : World} {m m' : List Res} {A : Option Addr} {xs : List Value} (h : Rd w0 m' A xs) (hM : ∀ w, Mem w0 m w → Mem w0 m' w) : Rd w0 m A xs := by
  unfold Rd at h ⊢
  exact fun w hw => h w (hM w hw)
theorem EcR.mono {w0 : World} {m m' : List Res} {n : Int} (hM : ∀ w, Mem w0 m w → Mem w0 m' w) : ∀ {L : List (Nat × ByteArray)}, EcR w0 m' L n → EcR w0 m L n
  | [], _ => trivial
  | (_, _) :: _, h => ⟨Rd.mono h.1 hM, EcR.mono hM h.2⟩
theorem EcR.own {w0 : World} {m : List Res} {n : Int} : ∀ L : List (Nat × ByteArray), EcR w0 (ecm L n ++ m) L n
  | [] => trivial
  | (_, _) :: r => ⟨Rd.blk 0 rfl, EcR.mono (fun _ hw => Mem.tail hw) (EcR.own r)⟩

/-- Memory in another order. -/
theorem apart_symm {r s : Res} (h : r.apart s) : s.apart r := fun g h1 h2 => h g h2 h1
theorem _root_.Go.Gp.Mem.perm {w0 w : World} {m m' : List Res} (h : Mem w0 m w) (p : m.Perm m') : Mem w0 m' w := by
  have pw : m.Pairwise Res.apart := by
    rw [List.pairwise_iff_getElem]
    intro i j hi hj hij
    exact h.apart i j _ _ (by omega) (List.getElem?_eq_getElem hi) (List.getElem?_eq_getElem hj)
  have pw' := (p.pairwise_iff (fun h => apart_symm h)).1 pw
  have all : ∀ r ∈ m, r.at w0.heap.size w := fun r hr => by
    obtain ⟨i, hi, e⟩ := List.mem_iff_getElem.1 hr
    exact h.all i r (by rw [← e]; exact List.getElem?_eq_getElem hi)
  rw [List.pairwise_iff_getElem] at pw'
  refine ⟨h.below, fun i r hi => ?_, fun i j r s hij hi hj => ?_⟩
  · obtain ⟨hlt, e⟩ := List.getElem?_eq_some_iff.1 hi
    exact all r (p.symm.subset (by rw [← e]; exact List.getElem_mem hlt))
  · obtain ⟨hlt, e⟩ := List.getElem?_eq_some_iff.1 hi
    obtain ⟨hlt', e'⟩ := List.getElem?_eq_some_iff.1 hj
    subst e e'
    rcases Nat.lt_or_gt_of_ne hij with hh | hh
    · exact pw' i j hlt hlt' hh
    · exact apart_symm (pw' j i hlt' hlt hh)
/-- The first one last. -/
theorem _root_.Go.Gp.Mem.rot {w0 : World} {r : Res} {J m0 : List Res} : ∀ w, Mem w0 ((r :: J) ++ m0) w → Mem w0 ((J ++ [r]) ++ m0) w := fun w h =>
  h.perm (List.Perm.append_right m0 (List.perm_append_singleton r J).symm)
theorem _root_.Go.Gp.Mem.unrot {w0 : World} {r : Res} {J m0 : List Res} : ∀ w, Mem w0 ((J ++ [r]) ++ m0) w → Mem w0 ((r :: J) ++ m0) w := fun w h =>
  h.perm (List.Perm.append_right m0 (List.perm_append_singleton r J))
/-- A slice of the call's own is no longer than its room. -/
theorem _root_.Go.Gp.WX.room {C : Cx} {Q : Po} {l : List (Nat × Value)} {m : List Res} {ops : Array Oper} {rest : List Oper} (i : Nat) {A : Option Addr} {c n : Nat} {xs : List Value} {e : TypeId} (hi : m[i]? = some (.own A c n xs e 1)) (h : n ≤ c → WX false C Q ops rest l m) : WX false C Q ops rest l m := by
  unfold WX WL at h ⊢
  intro a w hs
  refine h ?_ a w hs
  have hlt : i < m.length := (List.getElem?_eq_some_iff.1 hi).1
  have hi' : (m ++ C.m0)[i]? = some (.own A c n xs e 1) := by rw [List.getElem?_append_left hlt]; exact hi
  have hown : w.ownsRow C.w0.heap.size e 1 (.slice A n c) n xs := hs.2.all i _ hi'
  rcases hown.2 with ⟨_, h0⟩ | ⟨gg, cap, cur, hv, hb, hg, hnc, hcm, hcs, htake⟩
  · omega
  · injection hv with h1 h2 h3
    omega
end Go.Proofs.Ythnabbidlmihbaa
