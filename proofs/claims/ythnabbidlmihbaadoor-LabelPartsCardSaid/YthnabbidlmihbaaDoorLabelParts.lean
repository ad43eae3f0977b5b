/- The law LabelParts: the walk. -/
import Derived.Test.YthnabbidlmihbaaDoorAwake6
import Derived.Test.YthnabbidlmihbaaDoorCode
set_option linter.unusedVariables false
set_option linter.unusedSimpArgs false
namespace Go.Proofs.YthnabbidlmihbaaDoor
open Go.RowKit Go.Gp

theorem _root_.Go.Gp.r_sad {C : Cx} {Q : Po} {l : List (Nat × Value)} {m : List Res} {ops : Array Oper} {rest : List Oper} {ty : TypeId} {pos : String} {af : Array Edge} {g : Option (Nat × Bool)} {b : Bool} {d : Nat} {x y : Operand} {t t' : TypeId} {s u : ByteArray}
    (hx : opv l x = some (.string s)) (hy : opv l y = some (.string u)) (h : okk ops l g d C.n = true) (hb : s.size + u.size ≤ 9223372036854775807) (c : WX b C Q ops rest ((d, .string (s ++ u)) :: l) m) : WX b C Q ops (⟨some d, .binOp .add t x y t', ty, pos, af, g⟩ :: rest) l m :=
  r_bi (s := .string (s ++ u)) hx hy (fun _ _ => rfl) (fun w _ => by
    have := run_string_add_sum (P := C.P) w s u hb
    simp only [binOp]
    exact this) h c
def sOf : Except Int ByteArray → ByteArray
  | .ok s => s
  | .error _ => ⟨#[]⟩
def eOf : Except Int ByteArray → List (Nat × ByteArray) → Value
  | .ok _, _ => .nilIface
  | .error n, L => ecv L n
def codeOf : Except Int ByteArray → Int
  | .ok _ => 0
  | .error n => n
theorem allV_eq (r : Except Int ByteArray) (L : List (Nat × ByteArray)) : allV r L = .tuple #[.string (sOf r), eOf r L] := by cases r <;> rfl
/-- The error can be read. -/
def ErR (w0 : World) (m : List Res) (r : Except Int ByteArray) (L : List (Nat × ByteArray)) : Prop := match r with
  | .ok _ => True
  | .error n => EcR w0 m L n
theorem ErR.own2 {w0 : World} {r m0 : List Res} (x : Except Int ByteArray) (L : List (Nat × ByteArray)) : ErR w0 ((allM x L ++ r) ++ m0) x L := by
  cases x with
  | ok _ => trivial
  | error n => exact EcR.own2 L
theorem ErR.skip {w0 : World} {a r m0 : List Res} {x : Except Int ByteArray} {L : List (Nat × ByteArray)} (h : ErR w0 (r ++ m0) x L) : ErR w0 ((a ++ r) ++ m0) x L := by
  cases x with
  | ok _ => trivial
  | error n => exact EcR.skip h
theorem ErR.cons {w0 : World} {m : List Res} {x : Except Int ByteArray} {L : List (Nat × ByteArray)} (h : ErR w0 m x L) (y : Res) : ErR w0 (y :: m) x L := by
  cases x with
  | ok _ => trivial
  | error n => exact EcR.cons h y
theorem codeE_spec (x : Except Int ByteArray) (L : List (Nat × ByteArray)) (w0 : World) (m0 : List Res) (h : ErR w0 m0 x L) (hE : Rd w0 m0 (some ⟨0, 0, none⟩) [errT]) :
    PureC Tryd.prog 9 [eOf x L] w0 m0 (.int .i64 (codeOf x)) := by
  cases x with
  | ok _ => exact code_nil w0 m0
  | error n => exact code_spec L n w0 m0 h hE
theorem codeOf_2 {x : Except Int ByteArray} (h : codeOf x = 2) : x = .error 2 := by
  cases x with
  | ok _ => cases h
  | error n => exact congrArg Except.error h
theorem allP_r32 {a b : List Int} (ha : ∀ n ∈ a, -2147483648 ≤ n ∧ n ≤ 2147483647) (hb : ∀ n ∈ b, -2147483648 ≤ n ∧ n ≤ 2147483647) : R32 (a ++ [46] ++ b) := R32.of_mem fun n hn => by
  simp only [List.mem_append, List.mem_singleton] at hn
  rcases hn with (hn | hn) | hn
  · exact ha n hn
  · subst hn; omega
  · exact hb n hn
theorem dot_ok {a b : List Int} (ha : a.length ≤ 60) (hb : b.length ≤ 60) : (foldP (a ++ [46] ++ b)).length ≤ 900000 ∧ ∀ q ∈ splitP 46 (foldP (a ++ [46] ++ b)), q.length ≤ 16000 ∧ ∀ t, oneP q = some t → t.size ≤ 500000 := by
  have h1 := foldP_len a
  have h2 := foldP_len b
  refine ⟨by rw [foldP_dot]; simp; omega, fun q hq => ?_⟩
  rw [foldP_dot, splitP_dot] at hq
  rcases List.mem_append.1 hq with hq | hq
  · exact (short_ok (by omega)).2 q hq
  · exact (short_ok (by omega)).2 q hq

theorem Mem.del1 {w0 : World} {a b m0 : List Res} {x : Res} : ∀ w, Mem w0 ((a ++ x :: b) ++ m0) w → Mem w0 ((a ++ b) ++ m0) w := fun w h =>
  Mem.tail (r := x) (h.perm ((List.perm_middle (a := x) (l₁ := a) (l₂ := b)).append_right m0))
set_option maxRecDepth 100000 in
theorem labelParts_spec (A B : Option Addr) (c d : Nat) (a b : List Int) (hla : ∀ n ∈ a, -2147483648 ≤ n ∧ n ≤ 2147483647) (hlb : ∀ n ∈ b, -2147483648 ≤ n ∧ n ≤ 2147483647) (w0 : World) (m0 : List Res) (hA : Rd w0 m0 A (runes a)) (hB : Rd w0 m0 B (runes b)) (hE : Rd w0 m0 (some ⟨0, 0, none⟩) [errT]) :
    PureC Tryd.prog 4 [.slice A a.length c, .slice B b.length d] w0 m0 (.bool true) := by
  refine Ct.of Tryd.func4 rfl (by kernel_rfl) rfl ?_
  by_cases hna : a.length ≤ 60
  · by_cases hnb : b.length ≤ 60
    · have hFa := foldP_len a
      have hFb := foldP_len b
      (refine c_sq fun k18 h18 => c_rg <| r_as rfl rfl <| r_nx h18 <| c_sq fun k20 h20 => c_rg ?_; rotate_left)
      refine WX.pure rfl rfl (awake6_spec _ _) rfl rfl ?_
      (refine r_as rfl rfl <| r_nx h20 <| c_sq fun k22 h22 => c_sq fun k24 h24 => c_rg <| r_mv rfl rfl <| r_ls Tryd.underlying22 rfl rfl <| r_gtF rfl rfl rfl (by omega) <| r_mv rfl rfl <| r_mv rfl rfl <| r_ls Tryd.underlying22 rfl rfl <| r_gtF rfl rfl rfl (by omega) <| r_pF rfl rfl rfl <| r_nx h24 <| c_cF rfl <| c_sk <| WE.then_n h22 <| c_sq fun k26 h26 => c_rg <| r_mv rfl rfl ?_; rotate_left)
      refine WX.call (m1 := []) (m2 := _) rfl rfl rfl (all_spec A c a (by omega) (R32.of_mem hla) (fun _ => short_ok (by omega)) _ _ (hA.app _)) rfl rfl (fun L1 _ => ?_)
      rw [allV_eq]
      (refine r_mv rfl rfl <| r_ex rfl rfl rfl <| r_ex rfl rfl rfl <| r_as rfl rfl <| r_as rfl rfl <| r_nx h26 <| c_sq fun k30 h30 => c_rg <| r_mv rfl rfl ?_; rotate_left)
      refine WX.call (m1 := []) (m2 := _) rfl rfl rfl (all_spec B d b (by omega) (R32.of_mem hlb) (fun _ => short_ok (by omega)) _ _ (hB.app _)) rfl rfl (fun L2 _ => ?_)
      rw [allV_eq]
      (refine r_mv rfl rfl <| r_ex rfl rfl rfl <| r_ex rfl rfl rfl <| r_as rfl rfl <| r_as rfl rfl <| r_nx h30 <| c_sq fun k34 h34 => c_rg <| r_bo Tryd.underlying22 rfl (fun _ => by kernel_rfl) rfl rfl rfl (fun _ => ?_); refine r_mv rfl rfl ?_; rotate_left)
      rename_i bb
      refine r_am (xs := []) (ys := a) 0 (z := .int .i32 0) (by_ := 4) (f := (.int .i32 ·)) Tryd.underlying22 (by kernel_rfl) rfl rfl rfl rfl (hA.app _) rfl (fun _ => rfl) (by simp; omega) rfl (fun p1 _ => ?_)
      (refine r_bo Tryd.underlying22 rfl (fun _ => by kernel_rfl) rfl rfl rfl (fun _ => ?_); rotate_left)
      refine r_am (xs := [] ++ a) (ys := [46]) 1 (z := .int .i32 0) (by_ := 4) (f := (.int .i32 ·)) Tryd.underlying22 (by kernel_rfl) rfl rfl rfl rfl (Rd.own 0 rfl) rfl (fun _ => rfl) (by simp; omega) rfl (fun p2 _ => ?_)
      (refine r_mv rfl rfl ?_; rotate_left)
      refine r_am (xs := [] ++ a ++ [46]) (ys := b) 1 (z := .int .i32 0) (by_ := 4) (f := (.int .i32 ·)) Tryd.underlying22 (by kernel_rfl) rfl rfl rfl rfl (hB.app _) rfl (fun _ => rfl) (by simp; omega) rfl (fun p3 _ => ?_)
      simp only [List.nil_append]
      (refine r_as rfl rfl <| r_nx h34 <| c_sq fun k44 h44 => c_rg <| r_mv rfl rfl ?_; rotate_left)
      refine WX.call (m1 := []) (m2 := _) rfl rfl rfl (all_spec p3.1 p3.2 (a ++ [46] ++ b) (by simp; omega) (allP_r32 hla hlb) (fun _ => dot_ok hna hnb) _ _ (Rd.own 1 rfl)) rfl rfl (fun L3 _ => ?_)
      rw [allV_eq]
      (refine r_mv rfl rfl <| r_ex rfl rfl rfl <| r_ex rfl rfl rfl <| r_as rfl rfl <| r_as rfl rfl <| r_nx h44 <| c_sq fun k48 h48 => c_sq fun k50 h50 => c_rg <| r_mv rfl rfl ?_; rotate_left)
      have hok1 : ∀ s, allP a = .ok s → s.size ≤ 500001 * 121 := fun s hs => by
        have := allP_size (fun q hq => ((short_ok (by omega)).2 q hq).2) hs
        have h2 : 500001 * ((foldP a).length + 1) ≤ 500001 * 121 := Nat.mul_le_mul_left _ (by omega)
        omega
      have hok2 : ∀ s, allP b = .ok s → s.size ≤ 500001 * 121 := fun s hs => by
        have := allP_size (fun q hq => ((short_ok (by omega)).2 q hq).2) hs
        have h2 : 500001 * ((foldP b).length + 1) ≤ 500001 * 121 := Nat.mul_le_mul_left _ (by omega)
        omega
      have hdot : ∀ s t, allP a = .ok s → allP b = .ok t → allP (a ++ [46] ++ b) = .ok (s ++ dotB ++ t) := fun s t h1 h2 => allP_dot_ok h1 h2
      have hbad : codeOf (allP a) = 2 ∨ codeOf (allP b) = 2 → allP (a ++ [46] ++ b) = .error 2 := fun h => allP_dot_bad (h.imp codeOf_2 codeOf_2)
      generalize allP a = r1 at hok1 hdot hbad ⊢
      generalize allP b = r2 at hok2 hdot hbad ⊢
      generalize allP (a ++ [46] ++ b) = r3 at hdot hbad ⊢
      refine WX.mem (m' := allM r3 L3 ++ (allM r2 L2 ++ (allM r1 L1 ++ []))) (fun w hw => Mem.del1 w (Mem.del1 w hw)) ?_
      have hc1 := codeE_spec r1 L1 w0 ((allM r3 L3 ++ (allM r2 L2 ++ (allM r1 L1 ++ []))) ++ m0) (ErR.skip (ErR.skip (ErR.own2 r1 L1))) (hE.app _)
      have hc2 := codeE_spec r2 L2 w0 ((allM r3 L3 ++ (allM r2 L2 ++ (allM r1 L1 ++ []))) ++ m0) (ErR.skip (ErR.own2 r2 L2)) (hE.app _)
      cases r1 with
      | ok s =>
        have hs := hok1 s rfl
        cases r2 with
        | ok t =>
          have ht := hok2 t rfl
          rw [hdot s t rfl rfl]
          simp only [eOf, sOf]
          (refine r_bk (.bool true) rfl rfl (fun _ => by kernel_rfl) rfl <| r_mv rfl rfl <| r_mv rfl rfl <| r_bk (.bool true) rfl rfl (fun _ => by kernel_rfl) rfl <| r_pT rfl rfl rfl <| r_nx h50 <| c_cT rfl <| c_sq fun k77 h77 => c_rg <| r_mv rfl rfl <| r_mv rfl rfl <| r_mv rfl rfl <| r_bk (.bool true) rfl rfl (fun _ => by kernel_rfl) rfl <| r_pT rfl rfl rfl <| r_mv rfl rfl <| r_mv rfl rfl <| r_mv rfl rfl ?_; rotate_left)
          have e1 : dotB.size = 1 := rfl
          refine r_sad (u := dotB) rfl rfl rfl (by omega) ?_
          (refine r_mv rfl rfl ?_; rotate_left)
          refine r_sad rfl rfl rfl (by rw [ByteArray.size_append]; omega) ?_
          (rotate_left)
          refine r_seq rfl rfl (fun _ => rfl) rfl ?_
          rw [decide_eq_true rfl]
          (refine r_pT rfl rfl rfl <| r_as rfl rfl <| r_nx h77 <| c_rt <| WE.then_r ?_; rotate_left)
          exact WE.ret1 () rfl rfl rfl trivial Mem.drop
        | error n =>
          simp only [eOf, codeOf] at hc1 hc2 hbad ⊢
          obtain ⟨T, v, he⟩ := ecv_form L2 n
          rw [he] at hc2 ⊢
          (refine r_bk (.bool true) rfl rfl (fun _ => by kernel_rfl) rfl <| r_mv rfl rfl <| r_mv rfl rfl <| r_bk (.bool false) rfl rfl (fun _ => by kernel_rfl) rfl <| r_pT rfl rfl rfl <| r_nx h50 <| c_cF rfl <| c_sk <| WE.then_n h48 <| c_sq fun k80 h80 => c_rg <| r_mv rfl rfl ?_; rotate_left)
          refine WX.pure rfl rfl hc1 rfl rfl ?_
          (refine r_eqF rfl rfl rfl (by omega) <| r_mv rfl rfl <| r_mv rfl rfl ?_; rotate_left)
          refine WX.pure rfl rfl hc2 rfl rfl ?_
          by_cases hn2 : n = 2
          · rw [hbad (.inr hn2)]
            simp only [eOf]
            obtain ⟨T3, v3, he3⟩ := ecv_form L3 2
            rw [he3]
            (refine r_eqT rfl rfl rfl (by omega) <| r_pF rfl rfl rfl <| r_as rfl rfl <| r_nx h80 <| c_sq fun k86 h86 => c_rg <| r_mv rfl rfl <| r_mv rfl rfl <| r_mv rfl rfl <| r_no rfl rfl rfl <| r_mv rfl rfl <| r_mv rfl rfl <| r_bk (.bool true) rfl rfl (fun _ => by kernel_rfl) rfl <| r_pF rfl rfl rfl <| r_pT rfl rfl rfl <| r_as rfl rfl <| r_nx h86 <| c_rt ?_; rotate_left)
            exact WE.ret1 () rfl rfl rfl trivial Mem.drop
          · (refine r_eqF rfl rfl rfl (by omega) <| r_pF rfl rfl rfl <| r_as rfl rfl <| r_nx h80 <| c_sq fun k83 h83 => c_rg <| r_mv rfl rfl <| r_mv rfl rfl <| r_mv rfl rfl <| r_no rfl rfl rfl <| r_mv rfl rfl <| r_sk rfl rfl <| r_sk rfl rfl <| r_pT rfl rfl rfl <| r_pT rfl rfl rfl <| r_as rfl rfl <| r_nx h83 <| c_rt ?_; rotate_left)
            exact WE.ret1 () rfl rfl rfl trivial Mem.drop
      | error n =>
        simp only [eOf, codeOf] at hc1 hbad ⊢
        obtain ⟨T, v, he⟩ := ecv_form L1 n
        rw [he] at hc1 ⊢
        (refine r_bk (.bool false) rfl rfl (fun _ => by kernel_rfl) rfl <| r_mv rfl rfl <| r_sk rfl rfl <| r_sk rfl rfl <| r_pF rfl rfl rfl <| r_nx h50 <| c_cF rfl <| c_sk <| WE.then_n h48 <| c_sq fun k73 h73 => c_rg <| r_mv rfl rfl ?_; rotate_left)
        refine WX.pure rfl rfl hc1 rfl rfl ?_
        by_cases hn2 : n = 2
        · rw [hbad (.inl hn2)]
          simp only [eOf]
          obtain ⟨T3, v3, he3⟩ := ecv_form L3 2
          rw [he3]
          (refine r_eqT rfl rfl rfl (by omega) <| r_mv rfl rfl <| r_sk rfl rfl <| r_sk rfl rfl <| r_sk rfl rfl <| r_pT rfl rfl rfl <| r_as rfl rfl <| r_nx h73 <| c_sq fun k79 h79 => c_rg <| r_mv rfl rfl <| r_mv rfl rfl <| r_mv rfl rfl <| r_no rfl rfl rfl <| r_mv rfl rfl <| r_mv rfl rfl <| r_bk (.bool true) rfl rfl (fun _ => by kernel_rfl) rfl <| r_pF rfl rfl rfl <| r_pT rfl rfl rfl <| r_as rfl rfl <| r_nx h79 <| c_rt ?_; rotate_left)
          exact WE.ret1 () rfl rfl rfl trivial Mem.drop
        · (refine r_eqF rfl rfl rfl (by omega) <| r_mv rfl rfl <| r_mv rfl rfl ?_; rotate_left)
          refine WX.pure rfl rfl hc2 rfl rfl ?_
          by_cases hn3 : codeOf r2 = 2
          · rw [hbad (.inr hn3)]
            simp only [eOf]
            obtain ⟨T3, v3, he3⟩ := ecv_form L3 2
            rw [he3]
            (refine r_eqT rfl rfl rfl (by omega) <| r_pF rfl rfl rfl <| r_as rfl rfl <| r_nx h73 <| c_sq fun k80 h80 => c_rg <| r_mv rfl rfl <| r_mv rfl rfl <| r_mv rfl rfl <| r_no rfl rfl rfl <| r_mv rfl rfl <| r_mv rfl rfl <| r_bk (.bool true) rfl rfl (fun _ => by kernel_rfl) rfl <| r_pF rfl rfl rfl <| r_pT rfl rfl rfl <| r_as rfl rfl <| r_nx h80 <| c_rt ?_; rotate_left)
            exact WE.ret1 () rfl rfl rfl trivial Mem.drop
          · (refine r_eqF rfl rfl rfl (by omega) <| r_pF rfl rfl rfl <| r_as rfl rfl <| r_nx h73 <| c_sq fun k77 h77 => c_rg <| r_mv rfl rfl <| r_mv rfl rfl <| r_mv rfl rfl <| r_no rfl rfl rfl <| r_mv rfl rfl <| r_sk rfl rfl <| r_sk rfl rfl <| r_pT rfl rfl rfl <| r_pT rfl rfl rfl <| r_as rfl rfl <| r_nx h77 <| c_rt ?_; rotate_left)
            exact WE.ret1 () rfl rfl rfl trivial Mem.drop
    · (refine c_sq fun k16 h16 => c_rg <| r_as rfl rfl <| r_nx h16 <| c_sq fun k18 h18 => c_rg ?_; rotate_left)
      refine WX.pure rfl rfl (awake6_spec _ _) rfl rfl ?_
      (refine r_as rfl rfl <| r_nx h18 <| c_sq fun k20 h20 => c_sq fun k22 h22 => c_rg <| r_mv rfl rfl <| r_ls Tryd.underlying22 rfl rfl <| r_gtF rfl rfl rfl (by omega) <| r_mv rfl rfl <| r_mv rfl rfl <| r_ls Tryd.underlying22 rfl rfl <| r_gtT rfl rfl rfl (by omega) <| r_pF rfl rfl rfl <| r_nx h22 <| c_cT rfl <| c_sq fun k24 h24 => c_rg <| r_mv rfl rfl <| r_as rfl rfl <| r_nx h24 <| c_rt <| WE.then_r ?_; rotate_left)
      exact WE.ret1 () rfl rfl rfl trivial Mem.drop
  · (refine c_sq fun k15 h15 => c_rg <| r_as rfl rfl <| r_nx h15 <| c_sq fun k17 h17 => c_rg ?_; rotate_left)
    refine WX.pure rfl rfl (awake6_spec _ _) rfl rfl ?_
    (refine r_as rfl rfl <| r_nx h17 <| c_sq fun k19 h19 => c_sq fun k21 h21 => c_rg <| r_mv rfl rfl <| r_ls Tryd.underlying22 rfl rfl <| r_gtT rfl rfl rfl (by omega) <| r_mv rfl rfl <| r_sk rfl rfl <| r_sk rfl rfl <| r_sk rfl rfl <| r_pT rfl rfl rfl <| r_nx h21 <| c_cT rfl <| c_sq fun k23 h23 => c_rg <| r_mv rfl rfl <| r_as rfl rfl <| r_nx h23 <| c_rt <| WE.then_r ?_; rotate_left)
    exact WE.ret1 () rfl rfl rfl trivial Mem.drop
end Go.Proofs.YthnabbidlmihbaaDoor
