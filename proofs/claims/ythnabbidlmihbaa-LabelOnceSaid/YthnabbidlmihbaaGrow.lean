/- (*strings.Builder).grow of a builder that holds nothing: the walk. -/
import Derived.Test.YthnabbidlmihbaaBuild
import Derived.Test.YthnabbidlmihbaaHeldL
import Derived.Test.YthnabbidlmihbaaRowOps
import Derived.Test.YthnabbidlmihbaaMore
import Derived.Laws.IdiomCopy
namespace Go.Proofs.Ythnabbidlmihbaa
open Go.RowKit Go.Gp

theorem x_noZero (n : Nat) (hn : n ≤ 1000000000000) (w : World) : ∃ cs : Array Value, (callFunc 63 #[.int .i64 n]).run Try.prog w = .ok (.value (.slice (some ⟨w.heap.size, 0, none⟩) n cs.size)) (w.drew.drew.alloc (.cells cs 5)) ∧ n ≤ cs.size ∧ cs.size ≤ maxLen := by
  obtain ⟨cs, h1, h2, h3⟩ := Go.Lib.run_makeNoZero (P := Try.prog) w #[3] 59 5 Try.underlying59 n (by omega)
  refine ⟨cs, ?_, h2, h3 (by unfold maxLen; omega)⟩
  rw [run_callFunc_extern (e := Extern.BytealgMakeNoZero.makeNoZero #[3] #[59]) Try.func63 (by kernel_rfl) (by kernel_rfl) (by kernel_rfl) (by kernel_rfl), h1]
  rfl
theorem grown_dda (w : World) (o : Obj) : w.grownBy (w.drew.drew.alloc o) none :=
  let q := World.grownBy_alloc w.drew.drew o none
  ⟨q.os, q.tape, q.output, q.size, q.block⟩
theorem elemB : Try.prog.underlying 59 = some (.slice (Try.prog.elem 59)) := by kernel_rfl
theorem sizeB (w : World) : (sizeOf (Try.prog.elem 59)).run Try.prog w = .ok 1 w := by kernel_rfl
set_option maxRecDepth 100000 in
theorem grow_spec (u : Bool) (g : Nat) (n : Nat) (hn : n ≤ 1000000000000) (w0 : World) (m0 : List Res) :
    Ct (α := Option Addr × Nat) Try.prog 53 [.pointer (some ⟨g, 0, none⟩), .int .i64 n] w0 [BB u g (none, 0) []] m0 (fun _ => True) (fun _ => .tuple #[]) (fun p => [BB u g p [], OwnB p []]) := by
  refine Ct.of Try.func53 rfl (by kernel_rfl) rfl ?_
  (refine c_sq fun k7 h7 => ?_)
  refine WC.heldL [BB u g (none, 0) []] rfl (by kernel_rfl) ?_
  refine WG.take (k := 0) (d := 5) rfl (by kernel_rfl) (Qv.move rfl) rfl rfl rfl Mem.keep ?_
  refine WG.take (k := 1) (d := 6) rfl (by kernel_rfl) (Qv.nilCheck rfl) rfl rfl rfl Mem.keep ?_
  refine WG.take (k := 2) (d := 7) rfl (by kernel_rfl) (Qv.fieldAddr (b := ⟨g, 1, none⟩) rfl (fun _ => by kernel_rfl)) rfl rfl rfl Mem.keep ?_
  refine WG.take (k := 3) (d := 8) rfl (by kernel_rfl) (Qv.load_blk (i := 0) Try.underlying59 rfl rfl rfl rfl) rfl rfl rfl Mem.keep ?_
  refine WG.take (k := 4) (d := 9) rfl (by kernel_rfl) (Qv.cap Try.underlying59 rfl) rfl rfl rfl Mem.keep ?_
  refine WG.take (k := 5) (d := 10) rfl (by kernel_rfl) (Qv.mul (r := 0) rfl rfl (by decide)) rfl rfl rfl Mem.keep ?_
  refine WG.take (k := 6) (d := 11) rfl (by kernel_rfl) (Qv.move rfl) rfl rfl rfl Mem.keep ?_
  refine WG.take (k := 7) (d := 12) rfl (by kernel_rfl) (Qv.add (r := (n : Int)) rfl rfl (by rw [Int.zero_add]; exact w64 (by omega))) rfl rfl rfl Mem.keep ?_
  refine WG.take (k := 9) (d := 14) rfl (by kernel_rfl) (Qv.move rfl) rfl rfl rfl Mem.keep ?_
  refine WG.take (k := 10) (d := 15) rfl (by kernel_rfl) (Qv.nilCheck rfl) rfl rfl rfl Mem.keep ?_
  refine WG.take (k := 11) (d := 16) rfl (by kernel_rfl) (Qv.fieldAddr (b := ⟨g, 1, none⟩) rfl (fun _ => by kernel_rfl)) rfl rfl rfl Mem.keep ?_
  refine WG.take (k := 12) (d := 17) rfl (by kernel_rfl) (Qv.load_blk (i := 0) Try.underlying59 rfl rfl rfl rfl) rfl rfl rfl Mem.keep ?_
  refine WG.take (k := 13) (d := 18) rfl (by kernel_rfl) (Qv.len_slice Try.underlying59 rfl) rfl rfl rfl Mem.keep ?_
  refine WG.ev (k := 8) (d := 13) (α := Nat × Nat) (φ := fun _ => True) (v := fun p => .slice (some ⟨p.1, 0, none⟩) n p.2) (m' := fun p => [BB u g (none, 0) [], OwnB (some ⟨p.1, 0, none⟩, p.2) []]) rfl (by kernel_rfl) (fun ev hev w hw => by
    obtain ⟨cs, h1, h2, h3⟩ := x_noZero n hn w
    refine ⟨(w.heap.size, cs.size), w.drew.drew.alloc (.cells cs 5), trivial, exec_call (xs := [.tmp 12]) (vs := [.int .i64 n]) rfl rfl hev h1, ?_⟩
    have hq : Mem w0 (OwnB (some ⟨w.heap.size, 0, none⟩, cs.size) [] :: ([BB u g (none, 0) []] ++ m0)) (w.drew.drew.alloc (.cells cs 5)) := by
      refine Mem.add hw (grown_dda w _) ?_ (fun k hk => by simp [Res.block] at hk; omega)
      exact ⟨rfl, .inr ⟨w.heap.size, cs.size, cs, rfl, hw.bnd, heap_alloc_new w.drew.drew _, Nat.zero_le _, h3, by simp, by simp⟩⟩
    exact Mem.pick (m := [OwnB (some ⟨w.heap.size, 0, none⟩, cs.size) [], BB u g (none, 0) []]) [1, 0] (by decide) rfl _ hq) rfl rfl rfl (fun p => Mem.pick [0] (by decide) rfl) (fun p _ => ?_)
  refine WG.qv (k := 14) (d := 19) rfl (by kernel_rfl) (Qv.st0 0 elemB sizeB rfl rfl rfl (Nat.zero_le _)) rfl rfl rfl (Mem.pick [0] (by decide) rfl) ?_
  refine WG.qv (k := 15) (d := 4) rfl (by kernel_rfl) (Qv.assign rfl) rfl rfl rfl (Mem.pick [0] (by decide) rfl) ?_
  refine WG.nil (by kernel_rfl) ?_
  (refine WE.then_n h7 <| c_sq fun k11 h11 => c_rg <| r_mv rfl rfl <| r_mv rfl rfl <| r_nc rfl rfl <| r_fa 1 rfl (fun _ => by kernel_rfl) rfl <| r_lb 0 Try.underlying59 rfl rfl rfl rfl rfl ?_; rotate_left)
  refine WX.q (d := 25) (v := .int .i64 0) (fun ev hev w _ => by
    have h1 := hev (.tmp 20) (.slice (some ⟨p.1, 0, none⟩) 0 p.2) rfl
    have h2 := hev (.tmp 24) (.slice none 0 0) rfl
    have hrun := run_copy_none (P := Try.prog) w 59 59 3 5 (some ⟨p.1, 0, none⟩) none 0 p.2 0 0 Try.underlying59 (by kernel_rfl) rfl
    simp only [goInt] at hrun
    simp [execOp, resolve, invoke, builtin, h1, h2, hrun]) rfl rfl rfl rfl ?_
  (refine r_nx h11 <| c_rg <| r_mv rfl rfl <| r_mv rfl rfl <| r_nc rfl rfl <| r_fa 1 rfl (fun _ => by kernel_rfl) rfl <| r_st 0 (by kernel_rfl) rfl rfl rfl rfl rfl rfl rfl <| r_nl ?_; rotate_left)
  exact WE.end0 (some ⟨p.1, 0, none⟩, p.2) rfl rfl rfl trivial Mem.keep
end Go.Proofs.Ythnabbidlmihbaa
