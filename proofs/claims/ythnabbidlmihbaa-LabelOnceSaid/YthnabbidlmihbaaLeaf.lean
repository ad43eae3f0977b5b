/- Small functions that a name meets: their contracts. -/
import Derived.Test.YthnabbidlmihbaaOps2
import Derived.Test.YthnabbidlmihbaaRef5P
namespace Go.Proofs.Ythnabbidlmihbaa
open Go.RowKit Go.Gp

set_option maxRecDepth 100000 in
theorem validRune_spec (c : Int) (w0 : World) (m0 : List Res) : PureC Try.prog 18 [.int .i32 c] w0 m0 (.bool (decide (ScP c))) := by
  refine Ct.of Try.func18 rfl (by kernel_rfl) rfl ?_
  (refine c_sq fun k4 h4 => c_rg <| r_as rfl rfl <| r_nx h4 <| c_sq fun k6 h6 => c_bl <| c_sq fun k8 h8 => c_rg <| r_mv rfl rfl <| r_leC rfl rfl rfl (fun _ => ?_) (fun _ => ?_); refine r_mv rfl rfl <| r_mv rfl rfl <| r_ltC rfl rfl rfl (fun _ => ?_) (fun _ => ?_); refine r_pT rfl rfl rfl <| r_as rfl rfl <| r_nx h8 <| c_cT rfl <| c_sq fun k12 h12 => c_rg <| r_as rfl rfl <| r_nx h12 <| c_rt <| WE.blk_r <| WE.then_r ?_; rotate_left; refine r_pT rfl rfl rfl <| r_as rfl rfl <| r_nx h8 <| c_cF rfl <| c_sq fun k12 h12 => c_rg <| r_mv rfl rfl <| r_ltC rfl rfl rfl (fun _ => ?_) (fun _ => ?_); refine r_mv rfl rfl <| r_mv rfl rfl <| r_leC rfl rfl rfl (fun _ => ?_) (fun _ => ?_); refine r_pT rfl rfl rfl <| r_as rfl rfl <| r_nx h12 <| c_cT rfl <| c_sq fun k16 h16 => c_rg <| r_as rfl rfl <| r_nx h16 <| c_rt <| WE.blk_r <| WE.then_r ?_; rotate_left; refine r_pT rfl rfl rfl <| r_as rfl rfl <| r_nx h12 <| c_cF rfl <| c_sk <| WE.blk_n <| WE.then_n h6 <| c_sq fun k16 h16 => c_rg <| r_as rfl rfl <| r_nx h16 <| c_rt ?_; rotate_left; refine r_mv rfl rfl <| r_sk rfl rfl <| r_sk rfl rfl <| r_pF rfl rfl rfl <| r_as rfl rfl <| r_nx h12 <| c_cF rfl <| c_sk <| WE.blk_n <| WE.then_n h6 <| c_sq fun k15 h15 => c_rg <| r_as rfl rfl <| r_nx h15 <| c_rt ?_; rotate_left; refine r_mv rfl rfl <| r_sk rfl rfl <| r_sk rfl rfl <| r_pF rfl rfl rfl <| r_as rfl rfl <| r_nx h8 <| c_cF rfl <| c_sq fun k11 h11 => c_rg <| r_mv rfl rfl <| r_ltF rfl rfl rfl (by omega) <| r_mv rfl rfl <| r_sk rfl rfl <| r_sk rfl rfl <| r_pF rfl rfl rfl <| r_as rfl rfl <| r_nx h11 <| c_cF rfl <| c_sk <| WE.blk_n <| WE.then_n h6 <| c_sq fun k13 h13 => c_rg <| r_as rfl rfl <| r_nx h13 <| c_rt ?_; rotate_left)
  all_goals
    first
    | exact WE.ret1 () rfl rfl (by rw [decide_eq_true (by omega : ScP c)]; rfl) trivial Mem.drop
    | exact WE.ret1 () rfl rfl (by rw [decide_eq_false (by omega : ¬ ScP c)]; rfl) trivial Mem.drop
/-- A predicate as a value: the function, what it closes over, and what it answers. -/
abbrev PredC (f : FuncId) (cs : List Value) (p : Int → Bool) (w0 : World) (m0 : List Res) : Prop := ∀ (c : Int) (m : List Res), PureC Try.prog f ([.int .i32 c] ++ cs) w0 (m ++ m0) (.bool (p c))
/-- The first place from i on. -/
def findFrom (p : Int → Bool) (l : List Int) : Int := match l.findIdx? p with | some i => i | none => -1
theorem findFrom_ge (p : Int → Bool) (l : List Int) : decide (0 ≤ findFrom p l) = l.any p := by
  unfold findFrom
  cases h : l.findIdx? p with
  | none =>
    rw [List.findIdx?_eq_none_iff] at h
    rw [Bool.eq_iff_iff]
    simp
    intro x hx
    exact by simpa using h x hx
  | some i =>
    have := List.findIdx?_eq_some_iff_getElem.1 h
    obtain ⟨hi, hp, _⟩ := this
    have h0 : (0 : Int) ≤ (i : Int) := by omega
    simp only [h0, decide_true]
    symm
    rw [List.any_eq_true]
    exact ⟨l[i], by simp, hp⟩
set_option maxRecDepth 100000 in
theorem indexFunc_spec (A : Option Addr) (c : Nat) (l : List Int) (f : FuncId) (cs : List Value) (p : Int → Bool) (hn : l.length ≤ 9000000000000000000) (w0 : World) (m0 : List Res) (hA : Rd w0 m0 A (runes l)) (hp : PredC f cs p w0 m0) :
    PureC Try.prog 35 [.slice A l.length c, .func (.func f) #[] cs.toArray] w0 m0 (.int .i64 (findFrom p l)) := by
  refine Ct.of Try.func35 rfl (by kernel_rfl) rfl ?_
  (refine c_sq fun k12 h12 => c_rg <| r_as rfl rfl <| r_nx h12 <| c_sq fun k14 h14 => c_sq fun k16 h16 => c_rg <| r_mv rfl rfl <| r_ls Try.underlying22 rfl rfl <| r_mv rfl rfl <| r_nx h16 <| c_bl ?_; rotate_left)
  refine WC.loop (α := Nat) (fun i => [(0, .slice A l.length c), (1, .func (.func f) #[] cs.toArray), (7, .int .i64 l.length), (8, .int .i64 i)]) (fun _ => []) (fun i => i ≤ l.length ∧ ∀ j, j < i → p (l.getD j 0) = false) (fun i => l.length - i) 0 ⟨by omega, by omega⟩ ⟨rfl, rfl, rfl, rfl, trivial⟩ Mem.keep ?_
  rintro i ⟨hi, hb⟩
  by_cases hlt : i < l.length
  · (refine c_sq fun k22 h22 => c_rg <| r_ltT rfl rfl rfl (by omega) <| r_nx h22 <| c_sq fun k24 h24 => c_cT rfl <| c_sk <| WE.then_n h24 <| c_sq fun k26 h26 => c_bl <| c_sq fun k28 h28 => c_rg <| r_mv rfl rfl <| r_as rfl rfl <| r_nx h28 <| c_sq fun k30 h30 => c_rg <| r_mv rfl rfl <| r_mv rfl rfl <| r_mv rfl rfl <| r_im (hA.app _) Try.underlying22 (by kernel_rfl) rfl rfl rfl rfl (by omega) (by omega) <| r_li (i) (hA.app _) Try.underlying21 rfl rfl rfl (by omega) ?_; rotate_left)
    have hq := fun m => hp (l.getD i 0) m
    rcases Bool.eq_false_or_eq_true (p (l.getD i 0)) with ht | ht
    · rw [ht] at hq
      refine WX.call (m1 := []) (m2 := []) rfl rfl rfl (hq []) rfl rfl (fun _ _ => ?_)
      (refine r_nx h30 <| c_cT rfl <| c_sq fun k37 h37 => c_rg <| r_mv rfl rfl <| r_as rfl rfl <| r_nx h37 <| c_rt <| WE.blk_r <| WE.then_r <| WE.then_r <| WE.blk_r <| WE.then_r ?_; rotate_left)
      exact WE.ret1 () rfl rfl (by
        have : l.findIdx? p = some i := by
          rw [List.findIdx?_eq_some_iff_getElem]
          refine ⟨hlt, by have := ht; simp [hlt] at this; exact this, fun j hj => ?_⟩
          have := hb j hj
          have hj' : j < l.length := by omega
          simp [hj'] at this
          simp [this]
        unfold findFrom
        rw [this]
        rfl) trivial Mem.drop
    · rw [ht] at hq
      refine WX.call (m1 := []) (m2 := []) rfl rfl rfl (hq []) rfl rfl (fun _ _ => ?_)
      (refine r_nx h30 <| c_cF rfl <| c_sk <| WE.blk_n <| WE.then_n h26 <| c_rg <| r_ad rfl rfl rfl (wadd64 (by omega)) <| r_mv rfl rfl <| r_nl ?_; rotate_left)
      exact WE.back (i + 1) ⟨by omega, fun j hj => by
        rcases Nat.lt_succ_iff_lt_or_eq.1 hj with h | h
        · exact hb j h
        · rw [h]; exact ht⟩ (by omega) ⟨rfl, rfl, rfl, rfl, trivial⟩ Mem.keep
  · (refine c_sq fun k22 h22 => c_rg <| r_ltF rfl rfl rfl (by omega) <| r_nx h22 <| c_sq fun k24 h24 => c_cF rfl <| c_ex <| WE.then_x <| WE.then_x <| WE.blk_x <| WE.then_n h14 <| c_sq fun k26 h26 => c_rg <| r_as rfl rfl <| r_nx h26 <| c_rt ?_; rotate_left)
    exact WE.ret1 () rfl rfl (by
      have : l.findIdx? p = none := by
        rw [List.findIdx?_eq_none_iff]
        intro x hx
        obtain ⟨j, hj, rfl⟩ := List.mem_iff_getElem.1 hx
        have := hb j (by omega)
        simp [hj] at this
        simp [this]
      unfold findFrom
      rw [this]
      rfl) trivial Mem.drop
set_option maxRecDepth 100000 in
theorem containsFunc_spec (A : Option Addr) (c : Nat) (l : List Int) (f : FuncId) (cs : List Value) (p : Int → Bool) (hn : l.length ≤ 9000000000000000000) (w0 : World) (m0 : List Res) (hA : Rd w0 m0 A (runes l)) (hp : PredC f cs p w0 m0) :
    PureC Try.prog 16 [.slice A l.length c, .func (.func f) #[] cs.toArray] w0 m0 (.bool (l.any p)) := by
  refine Ct.of Try.func16 rfl (by kernel_rfl) rfl ?_
  (refine c_sq fun k12 h12 => c_rg <| r_as rfl rfl <| r_nx h12 <| c_sq fun k14 h14 => c_rg <| r_mv rfl rfl <| r_mv rfl rfl ?_; rotate_left)
  refine WX.pure rfl rfl (indexFunc_spec A c l f cs p hn _ _ (hA.app _) (fun c m => by rw [← List.append_assoc]; exact hp c _)) rfl rfl ?_
  by_cases h : 0 ≤ findFrom p l
  · (refine r_geT rfl rfl rfl (by omega) <| r_as rfl rfl <| r_nx h14 <| c_rt ?_; rotate_left)
    exact WE.ret1 () rfl rfl (by rw [← findFrom_ge, decide_eq_true h]; rfl) trivial Mem.drop
  · (refine r_geF rfl rfl rfl (by omega) <| r_as rfl rfl <| r_nx h14 <| c_rt ?_; rotate_left)
    exact WE.ret1 () rfl rfl (by rw [← findFrom_ge, decide_eq_false h]; rfl) trivial Mem.drop

theorem notValid_spec (c : Int) (w0 : World) (m0 : List Res) : PureC Try.prog 17 [.int .i32 c] w0 m0 (.bool (!decide (ScP c))) := by
  refine Ct.of Try.func17 rfl (by kernel_rfl) rfl ?_
  (refine c_sq fun k4 h4 => c_rg <| r_as rfl rfl <| r_nx h4 <| c_sq fun k6 h6 => c_rg <| r_mv rfl rfl ?_; rotate_left)
  refine WX.pure rfl rfl (validRune_spec c _ _) rfl rfl ?_
  (refine r_no rfl rfl rfl <| r_as rfl rfl <| r_nx h6 <| c_rt ?_; rotate_left)
  exact WE.ret1 () rfl rfl rfl trivial Mem.drop
theorem notValid2_spec (c : Int) (w0 : World) (m0 : List Res) : PureC Try.prog 44 [.int .i32 c] w0 m0 (.bool (!decide (ScP c))) := by
  refine Ct.of Try.func44 rfl (by kernel_rfl) rfl ?_
  (refine c_sq fun k4 h4 => c_rg <| r_as rfl rfl <| r_nx h4 <| c_sq fun k6 h6 => c_rg <| r_mv rfl rfl ?_; rotate_left)
  refine WX.pure rfl rfl (validRune_spec c _ _) rfl rfl ?_
  (refine r_no rfl rfl rfl <| r_as rfl rfl <| r_nx h6 <| c_rt ?_; rotate_left)
  exact WE.ret1 () rfl rfl rfl trivial Mem.drop
theorem above_spec (c : Int) (w0 : World) (m0 : List Res) : PureC Try.prog 19 [.int .i32 c] w0 m0 (.bool (decide (128 ≤ c))) := by
  refine Ct.of Try.func19 rfl (by kernel_rfl) rfl ?_
  (refine c_sq fun k4 h4 => c_rg <| r_as rfl rfl <| r_nx h4 <| c_sq fun k6 h6 => c_rg <| r_mv rfl rfl <| r_geC rfl rfl rfl (fun _ => ?_) (fun _ => ?_); refine r_as rfl rfl <| r_nx h6 <| c_rt ?_; rotate_left; refine r_as rfl rfl <| r_nx h6 <| c_rt ?_; rotate_left)
  all_goals
    first
    | exact WE.ret1 () rfl rfl (by rw [decide_eq_true (by omega : 128 ≤ c)]; rfl) trivial Mem.drop
    | exact WE.ret1 () rfl rfl (by rw [decide_eq_false (by omega : ¬ 128 ≤ c)]; rfl) trivial Mem.drop
abbrev MarkP (l : List Int) : Prop := 0 < l.length ∧ 768 ≤ l.getD 0 0 ∧ l.getD 0 0 ≤ 879
set_option maxRecDepth 100000 in
theorem marked_spec (A : Option Addr) (c : Nat) (l : List Int) (w0 : World) (m0 : List Res) (hA : Rd w0 m0 A (runes l)) : PureC Try.prog 23 [.slice A l.length c] w0 m0 (.bool (decide (MarkP l))) := by
  refine Ct.of Try.func23 rfl (by kernel_rfl) rfl ?_
  by_cases h0 : 0 < l.length
  · (refine c_sq fun k8 h8 => c_rg <| r_as rfl rfl <| r_nx h8 <| c_sq fun k10 h10 => c_rg <| r_mv rfl rfl <| r_ls Try.underlying22 rfl rfl <| r_gtT rfl rfl rfl (by omega) <| r_mv rfl rfl <| r_mv rfl rfl <| r_im (hA.app _) Try.underlying22 (by kernel_rfl) rfl rfl rfl rfl (by omega) (by omega) <| r_li (0) (hA.app _) Try.underlying21 rfl rfl rfl (by omega) <| r_geC rfl rfl rfl (fun _ => ?_) (fun _ => ?_); refine r_pT rfl rfl rfl <| r_mv rfl rfl <| r_mv rfl rfl <| r_im (hA.app _) Try.underlying22 (by kernel_rfl) rfl rfl rfl rfl (by omega) (by omega) <| r_li (0) (hA.app _) Try.underlying21 rfl rfl rfl (by omega) <| r_leC rfl rfl rfl (fun _ => ?_) (fun _ => ?_); refine r_pT rfl rfl rfl <| r_as rfl rfl <| r_nx h10 <| c_rt ?_; rotate_left; refine r_pT rfl rfl rfl <| r_as rfl rfl <| r_nx h10 <| c_rt ?_; rotate_left; refine r_pT rfl rfl rfl <| r_mv rfl rfl <| r_sk rfl rfl <| r_sk rfl rfl <| r_sk rfl rfl <| r_sk rfl rfl <| r_pF rfl rfl rfl <| r_as rfl rfl <| r_nx h10 <| c_rt ?_; rotate_left)
    all_goals
      first
      | exact WE.ret1 () rfl rfl (by rw [decide_eq_true (by omega : MarkP l)]; rfl) trivial Mem.drop
      | exact WE.ret1 () rfl rfl (by rw [decide_eq_false (by omega : ¬ MarkP l)]; rfl) trivial Mem.drop
  · (refine c_sq fun k8 h8 => c_rg <| r_as rfl rfl <| r_nx h8 <| c_sq fun k10 h10 => c_rg <| r_mv rfl rfl <| r_ls Try.underlying22 rfl rfl <| r_gtF rfl rfl rfl (by omega) <| r_mv rfl rfl <| r_sk rfl rfl <| r_sk rfl rfl <| r_sk rfl rfl <| r_sk rfl rfl <| r_pF rfl rfl rfl <| r_mv rfl rfl <| r_sk rfl rfl <| r_sk rfl rfl <| r_sk rfl rfl <| r_sk rfl rfl <| r_pF rfl rfl rfl <| r_as rfl rfl <| r_nx h10 <| c_rt ?_; rotate_left)
    exact WE.ret1 () rfl rfl (by rw [decide_eq_false (by omega : ¬ MarkP l)]; rfl) trivial Mem.drop
/-- Does a text begin with another? -/
def preB (s p : ByteArray) : Bool := decide (p.size ≤ s.size) && decide (s.extract 0 p.size = p)
theorem hasPrefix0_spec (s p : ByteArray) (w0 : World) (m0 : List Res) : PureC Try.prog 36 [.string s, .string p] w0 m0 (.bool (preB s p)) := by
  refine Ct.of Try.func36 rfl (by kernel_rfl) rfl ?_
  by_cases h : p.size ≤ s.size
  · (refine c_sq fun k6 h6 => c_rg <| r_as rfl rfl <| r_nx h6 <| c_sq fun k8 h8 => c_rg <| r_mv rfl rfl <| r_lS Try.underlying9 rfl rfl <| r_mv rfl rfl <| r_lS Try.underlying9 rfl rfl <| r_geT rfl rfl rfl (by omega) <| r_mv rfl rfl <| r_mv rfl rfl <| r_mv rfl rfl <| r_lS Try.underlying9 rfl rfl ?_; rotate_left)
    refine r_sT Try.underlying9 rfl rfl (by omega) (by omega) rfl ?_
    (refine r_mv rfl rfl ?_; rotate_left)
    refine r_seq rfl rfl (fun _ => rfl) rfl ?_
    (refine r_pT rfl rfl rfl <| r_as rfl rfl <| r_nx h8 <| c_rt ?_; rotate_left)
    exact WE.ret1 () rfl rfl (by unfold preB; rw [decide_eq_true h, Bool.true_and]; rfl) trivial Mem.drop
  · (refine c_sq fun k6 h6 => c_rg <| r_as rfl rfl <| r_nx h6 <| c_sq fun k8 h8 => c_rg <| r_mv rfl rfl <| r_lS Try.underlying9 rfl rfl <| r_mv rfl rfl <| r_lS Try.underlying9 rfl rfl <| r_geF rfl rfl rfl (by omega) <| r_mv rfl rfl <| r_sk rfl rfl <| r_sk rfl rfl <| r_sk rfl rfl <| r_sk rfl rfl <| r_sk rfl rfl <| r_sk rfl rfl <| r_pF rfl rfl rfl <| r_as rfl rfl <| r_nx h8 <| c_rt ?_; rotate_left)
    exact WE.ret1 () rfl rfl (by unfold preB; rw [decide_eq_false h, Bool.false_and]; rfl) trivial Mem.drop
theorem hasPrefix_spec (s p : ByteArray) (w0 : World) (m0 : List Res) : PureC Try.prog 20 [.string s, .string p] w0 m0 (.bool (preB s p)) := by
  refine Ct.of Try.func20 rfl (by kernel_rfl) rfl ?_
  (refine c_sq fun k5 h5 => c_rg <| r_as rfl rfl <| r_nx h5 <| c_sq fun k7 h7 => c_rg <| r_mv rfl rfl <| r_mv rfl rfl ?_; rotate_left)
  refine WX.pure rfl rfl (hasPrefix0_spec s p _ _) rfl rfl ?_
  (refine r_as rfl rfl <| r_nx h7 <| c_rt ?_; rotate_left)
  exact WE.ret1 () rfl rfl rfl trivial Mem.drop
end Go.Proofs.Ythnabbidlmihbaa
