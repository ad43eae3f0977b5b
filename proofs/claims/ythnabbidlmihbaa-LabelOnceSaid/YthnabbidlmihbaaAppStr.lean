/- append(b, s...) of a string onto bytes that the call owns: where the new slice lies; the rule of the walk. -/
import Derived.Test.YthnabbidlmihbaaExt
import Derived.Lib.AppendStr
set_option linter.unusedVariables false
namespace Go.Gp
open Go.RowKit Go.Lib
theorem run_append_str_at {P : Program} (w : World) (base : Nat) (t u ty e : TypeId) (i : TypeInfo) (ht : P.underlying t = some (.slice e)) (hu : P.underlying u = some .string) (hi : P.info? e = some i) (hz : i.zero = some (.int .u8 0)) (hsize : i.size = 1) (hby : i.bytes = 1)
    (v : Value) (n : Nat) (xs : List Value) (hown : w.ownsRow base e 1 v n xs) (s : ByteArray) (hbytes : n + s.size ≤ 140737488355328) (hbase : base ≤ w.heap.size) :
    ∃ v' w', (Builtin.append_ #[t, u] ty #[v, .string s]).run P w = .ok v' w' ∧ w'.ownsRow base e 1 v' (n + s.size) (xs ++ strCells s) ∧ w.grownBy w' v.ownBlock ∧ (v'.ownBlock = v.ownBlock ∨ v'.ownBlock = some w.heap.size) := by
  have h63 : n + s.size ≤ maxLen := by unfold maxLen; omega
  have hxl : xs.length = n := by simpa using hown.1
  obtain ⟨v', w', hrun, h1, h2, h3⟩ := run_append_own_string (P := P) w base t u ty e i ht hu hi hz hsize hby v n xs hown s h63 hbytes hbase
  refine ⟨v', w', hrun, h1, h2, ?_⟩
  rcases hown.2 with ⟨rfl, rfl⟩ | ⟨g, cap, cur, rfl, hbg, hg, hnc, hcm, hcs, htake⟩
  · by_cases hm : s.size = 0
    · left
      rw [h3.2 ⟨rfl, hm⟩]
    · right
      have hr := run_append_nil_string (P := P) w t u ty e i (.int .u8 0) ht hu hi hz s (by omega) (by unfold maxLen at h63; omega) (by rw [hby]; omega)
      rw [hr] at hrun
      injection hrun with q1 q2
      rw [← q1]
      rfl
  · have hcs' : cur.size = cap := by simpa using hcs
    by_cases hroom : n + s.size ≤ cap
    · left
      have hr := run_append_room_string (P := P) w t u ty e i ht hu hi hsize g n cap cur hg s hroom (by omega)
      rw [hr] at hrun
      injection hrun with q1 q2
      rw [← q1]
      rfl
    · right
      have holds : ∀ j u, xs[j]? = some u → w.cell? ((⟨g, 0, none⟩ : Addr).add j) = some u := hown.cells (g := g) rfl
      have hr := run_append_grow_string (P := P) w t u ty e i (.int .u8 0) ht hu hi hz ⟨g, 0, none⟩ n cap xs (by rw [hsize]; simpa using hxl) holds s (by omega) (by unfold maxLen at h63; omega) (by rw [hby]; exact growslice_fits (by omega) (by omega))
      rw [hr] at hrun
      injection hrun with q1 q2
      rw [← q1]
      rfl
section
variable {C : Cx} {Q : Po} {l : List (Nat × Value)} {m : List Res} {ops : Array Oper} {rest : List Oper} {ty : TypeId} {pos : String} {af : Array Edge} {g : Option (Nat × Bool)} {b : Bool} {d : Nat} {v u : Value} {x y z : Operand} {t t' t2 : TypeId}
theorem Ev.appendStr {s x : Operand} {e : TypeId} {inf : TypeInfo} {A : Option Addr} {c n i : Nat} {xs : List Value} {dd : Option Nat} {bs : ByteArray}
    (ht : C.P.underlying t = some (.slice e)) (hu : C.P.underlying t' = some .string) (hi : C.P.info? e = some inf) (hz : inf.zero = some (.int .u8 0)) (hsz : inf.size = 1) (hby : inf.bytes = 1)
    (hs : opv l s = some (.slice A n c)) (hx : opv l x = some (.string bs)) (hm : m[i]? = some (.own A c n xs e 1)) (hbb : n + bs.size ≤ 140737488355328) :
    Ev (α := Option Addr × Nat) C l m ⟨dd, .call { callee := .builtin .append, args := #[s, x], argTypes := #[t, t'] }, ty, pos, af, g⟩ (fun _ => True) (fun p => .slice p.1 (n + bs.size) p.2) (fun p => m.set i (.own p.1 p.2 (n + bs.size) (xs ++ strCells bs) e 1)) := fun ev hev w hw => by
  have hlt : i < m.length := (List.getElem?_eq_some_iff.1 hm).1
  have hm' : (m ++ C.m0)[i]? = some (.own A c n xs e 1) := by rw [List.getElem?_append_left hlt]; exact hm
  have hown : w.ownsRow C.w0.heap.size e 1 (.slice A n c) n xs := hw.all i _ hm'
  obtain ⟨v', w', hrun, h2, h3, h5⟩ := run_append_str_at (P := C.P) w C.w0.heap.size t t' ty e inf ht hu hi hz hsz hby (.slice A n c) n xs hown bs hbb hw.bnd
  have hform : ∃ p : Option Addr × Nat, v' = .slice p.1 (n + bs.size) p.2 := by
    rcases h2.2 with ⟨h, h'⟩ | ⟨g, cap, cur, h, _⟩
    · exact ⟨(none, 0), by rw [h, h']⟩
    · exact ⟨(some ⟨g, 0, none⟩, cap), h⟩
  obtain ⟨p, rfl⟩ := hform
  have hblk : ∀ (q : Option Addr) (u c : Nat), Value.ownBlock (.slice q u c) = q.map (·.block) := by intro q u c; cases q <;> rfl
  refine ⟨p, w', trivial, ?_, ?_⟩
  · simp [execOp, resolve, invoke, builtin, hev s _ hs, hev x _ hx, hrun]
  · rw [← List.set_append_left _ _ hlt]
    refine hw.upd hm' (by rw [hblk] at h3; exact h3) h2 ?_
    intro g hg
    rw [hblk, hblk] at h5
    have hg' : p.1.map (·.block) = some g := hg
    rcases h5 with h5 | h5
    · left; show A.map (·.block) = some g; rw [← h5]; exact hg'
    · right
      rw [h5] at hg'
      have := Option.some.inj hg'
      omega
theorem strCells_bytes (s : ByteArray) : strCells s = s.data.toList.map fun b => Value.int .u8 b.toNat := rfl
/-- Bytes and a string's bytes. -/
theorem r_as2 (i : Nat) {xs : List UInt8} {s' : Operand} {e : TypeId} {A : Option Addr} {c : Nat} {bs : ByteArray} (ht : C.P.underlying t = some (.slice e)) (hu : C.P.underlying t' = some .string) (hinf : (C.P.info? e).map (fun i => (i.zero, i.size, i.bytes)) = some (some (.int .u8 0), 1, 1))
    (hs : opv l s' = some (.slice A xs.length c)) (hx : opv l x = some (.string bs)) (hm : m[i]? = some (.own A c xs.length (xs.map fun b => .int .u8 b.toNat) e 1)) (hlen : xs.length + bs.size ≤ 140737488355328) (h : okk ops l g d C.n = true)
    (cc : ∀ p : Option Addr × Nat, WX false C Q ops rest ((d, .slice p.1 (xs ++ bs.data.toList).length p.2) :: l) (m.set i (.own p.1 p.2 (xs ++ bs.data.toList).length ((xs ++ bs.data.toList).map fun b => .int .u8 b.toNat) e 1))) :
    WX false C Q ops (⟨some d, .call { callee := .builtin .append, args := #[s', x], argTypes := #[t, t'] }, ty, pos, af, g⟩ :: rest) l m := by
  cases hq : C.P.info? e with
  | none => simp [hq] at hinf
  | some inf =>
    have h3 : inf.zero = some (.int .u8 0) ∧ inf.size = 1 ∧ inf.bytes = 1 := by simpa [hq] using hinf
    refine WX.ev (Ev.appendStr ht hu hq h3.1 h3.2.1 h3.2.2 hs hx hm hlen) rfl (okk_1 h) (okk_2 h) rfl (fun p _ => ?_)
    have := cc p
    have e1 : (xs ++ bs.data.toList).length = xs.length + bs.size := by rw [List.length_append, Array.length_toList]; rfl
    rw [e1, List.map_append, ← strCells_bytes] at this
    exact this
end
end Go.Gp
