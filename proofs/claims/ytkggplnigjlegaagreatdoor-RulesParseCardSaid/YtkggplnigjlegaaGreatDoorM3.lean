/- Contracts and laws, part 3 of 5: what each function of the program computes. -/
import Derived.Ground.Names2Prog
import Derived.Shelf.Lays2
import Derived.Shelf.Slices.ReverseS
import Derived.Sort.OwnSorted
import Derived.Deep.MidRow
import Derived.Test.YtkggplnigjlegaaGreatDoorM2
/- The rules for the head of a region that draws its order and ends in effects; by program (mkstill.py) out of the rules of the logic. -/
set_option linter.unusedVariables false
namespace Go.Gp
open Go.RowKit
section
variable {C : Cx} {Q : Po} {l : List (Nat × Value)} {m : List Res} {ops : Array Oper} {rest tail : List Oper} {d : Nat} {ty : TypeId} {pos : String} {af : Array Edge} {g : Option (Nat × Bool)} {t t' t2 : TypeId} {x y z : Operand} {k k' : IntKind} {p q r : Int} {v u : Value}
theorem WS.skip {o : Oper} {d : Nat} (hd : o.dst = some d) (hdn : Nat.blt d C.n = true) (hg : wants ops l o.guard = some false) (k : WS C Q ops tail rest ((d, undef) :: l) m) : WS C Q ops tail (o :: rest) l m := by
  intro a w hs
  unfold wpStill
  rw [if_neg (by rw [wanted_of hs.1 hg]; simp)]
  have := k _ w ⟨hs.1.put d undef hdn, hs.2⟩
  rw [← hd] at this
  exact this
theorem WT.st {o : Oper} {m' : List Res} (hv : Sv C l m o m') (hd : o.dst = none) (hg : wants ops l o.guard = some true) (k : WT C Q ops rest l m') : WT C Q ops (o :: rest) l m := by
  intro a w hs
  obtain ⟨w', hr, hm⟩ := hv a.eval (ev_of hs.1) w hs.2
  unfold wpList
  rw [if_pos (wanted_of hs.1 hg)]
  refine .inl ?_
  unfold Oper.wp
  rw [hr, Oper.upon_skip, hd]
  exact k _ _ ⟨hs.1.none_ _, hm⟩
theorem WT.call {α : Type} {φ : α → Prop} {val : α → Value} {M : α → List Res} {fo : Operand} {xs : List Operand} {ts : Array TypeId} {f : FuncId} {vs cs : List Value} {m1 m2 : List Res}
    (hfo : opv l fo = some (.func (.func f) #[] cs.toArray)) (hxs : opvs l xs = some vs) (hm : m = m1 ++ m2) (hsp : Ct C.P f (vs ++ cs) C.w0 m1 (m2 ++ C.m0) φ val M) (hdn : Nat.blt d C.n = true) (hg : wants ops l g = some true)
    (k : ∀ x, φ x → WT C Q ops rest ((d, val x) :: l) (M x ++ m2)) : WT C Q ops (⟨some d, .call { callee := .value fo, args := xs.toArray, argTypes := ts }, ty, pos, af, g⟩ :: rest) l m := by
  intro a w hs
  unfold wpList
  rw [if_pos (wanted_of hs.1 hg)]
  refine .inl ?_
  unfold Ct at hsp
  unfold Oper.wp
  rw [run_call hsp.1 (hs.1.eval hfo) (opvs_map (ev_of hs.1) xs vs hxs) w]
  refine (hsp.2 w (by rw [← List.append_assoc, ← hm]; exact hs.2)).mono ?_
  rintro e w' ⟨x, hx, rfl, hmem⟩
  refine k x hx _ _ ⟨hs.1.put d _ hdn, ?_⟩
  rw [List.append_assoc]
  exact hmem
theorem s_sk {o : Op} (hg : wants ops l g = some false) (hd : Nat.blt d C.n = true) (c : WS C Q ops tail rest ((d, undef) :: l) m) : WS C Q ops tail (⟨some d, o, ty, pos, af, g⟩ :: rest) l m := WS.skip rfl hd hg c
theorem s_mv (hx : opv l x = some v) (h : okk ops l g d C.n = true) (c : WS C Q ops tail rest ((d, v) :: l) m) : WS C Q ops tail (⟨some d, .move x, ty, pos, af, g⟩ :: rest) l m := WS.q (Qv.move hx) rfl (okk_1 h) (okk_2 h) c
theorem s_as (hx : opv l x = some v) (h : okk ops l g d C.n = true) (c : WS C Q ops tail rest ((d, v) :: l) m) : WS C Q ops tail (⟨some d, .assign x, ty, pos, af, g⟩ :: rest) l m := WS.q (Qv.assign hx) rfl (okk_1 h) (okk_2 h) c
theorem s_pT (hx : opv l x = some (.bool true)) (hy : opv l y = some v) (h : okk ops l g d C.n = true) (c : WS C Q ops tail rest ((d, v) :: l) m) : WS C Q ops tail (⟨some d, .pick x y z, ty, pos, af, g⟩ :: rest) l m := WS.q (Qv.pick_t hx hy) rfl (okk_1 h) (okk_2 h) c
theorem s_pF (hx : opv l x = some (.bool false)) (hy : opv l z = some v) (h : okk ops l g d C.n = true) (c : WS C Q ops tail rest ((d, v) :: l) m) : WS C Q ops tail (⟨some d, .pick x y z, ty, pos, af, g⟩ :: rest) l m := WS.q (Qv.pick_f hx hy) rfl (okk_1 h) (okk_2 h) c
theorem s_ex {i : Nat} {vs : List Value} (hx : opv l x = some (.tuple vs.toArray)) (hi : vs[i]? = some v) (h : okk ops l g d C.n = true) (c : WS C Q ops tail rest ((d, v) :: l) m) : WS C Q ops tail (⟨some d, .extract x i, ty, pos, af, g⟩ :: rest) l m := WS.q (Qv.extract hx (by simpa using hi)) rfl (okk_1 h) (okk_2 h) c
theorem s_no {e e' : Bool} (hx : opv l x = some (.bool e)) (hv : (!e) = e') (h : okk ops l g d C.n = true) (c : WS C Q ops tail rest ((d, .bool e') :: l) m) : WS C Q ops tail (⟨some d, .unOp .not t x, ty, pos, af, g⟩ :: rest) l m := by subst hv; exact WS.q (Qv.not_ hx) rfl (okk_1 h) (okk_2 h) c
theorem s_nc {a : Addr} (hx : opv l x = some (.pointer (some a))) (h : okk ops l g d C.n = true) (c : WS C Q ops tail rest ((d, .pointer (some a)) :: l) m) : WS C Q ops tail (⟨some d, .nilCheck x, ty, pos, af, g⟩ :: rest) l m := WS.q (Qv.nilCheck hx) rfl (okk_1 h) (okk_2 h) c
theorem s_ltT (hx : opv l x = some (.int k p)) (hy : opv l y = some (.int k q)) (h : okk ops l g d C.n = true) (hc : p < q) (c : WS C Q ops tail rest ((d, .bool true) :: l) m) : WS C Q ops tail (⟨some d, .binOp .lss t x y t', ty, pos, af, g⟩ :: rest) l m := WS.q (Qv.lss_t hx hy hc) rfl (okk_1 h) (okk_2 h) c
theorem s_ltF (hx : opv l x = some (.int k p)) (hy : opv l y = some (.int k q)) (h : okk ops l g d C.n = true) (hc : ¬ p < q) (c : WS C Q ops tail rest ((d, .bool false) :: l) m) : WS C Q ops tail (⟨some d, .binOp .lss t x y t', ty, pos, af, g⟩ :: rest) l m := WS.q (Qv.lss_f hx hy hc) rfl (okk_1 h) (okk_2 h) c
theorem s_leT (hx : opv l x = some (.int k p)) (hy : opv l y = some (.int k q)) (h : okk ops l g d C.n = true) (hc : p ≤ q) (c : WS C Q ops tail rest ((d, .bool true) :: l) m) : WS C Q ops tail (⟨some d, .binOp .leq t x y t', ty, pos, af, g⟩ :: rest) l m := WS.q (Qv.leq_t hx hy hc) rfl (okk_1 h) (okk_2 h) c
theorem s_leF (hx : opv l x = some (.int k p)) (hy : opv l y = some (.int k q)) (h : okk ops l g d C.n = true) (hc : ¬ p ≤ q) (c : WS C Q ops tail rest ((d, .bool false) :: l) m) : WS C Q ops tail (⟨some d, .binOp .leq t x y t', ty, pos, af, g⟩ :: rest) l m := WS.q (Qv.leq_f hx hy hc) rfl (okk_1 h) (okk_2 h) c
theorem s_gtT (hx : opv l x = some (.int k p)) (hy : opv l y = some (.int k q)) (h : okk ops l g d C.n = true) (hc : p > q) (c : WS C Q ops tail rest ((d, .bool true) :: l) m) : WS C Q ops tail (⟨some d, .binOp .gtr t x y t', ty, pos, af, g⟩ :: rest) l m := WS.q (Qv.gtr_t hx hy hc) rfl (okk_1 h) (okk_2 h) c
theorem s_gtF (hx : opv l x = some (.int k p)) (hy : opv l y = some (.int k q)) (h : okk ops l g d C.n = true) (hc : ¬ p > q) (c : WS C Q ops tail rest ((d, .bool false) :: l) m) : WS C Q ops tail (⟨some d, .binOp .gtr t x y t', ty, pos, af, g⟩ :: rest) l m := WS.q (Qv.gtr_f hx hy hc) rfl (okk_1 h) (okk_2 h) c
theorem s_geT (hx : opv l x = some (.int k p)) (hy : opv l y = some (.int k q)) (h : okk ops l g d C.n = true) (hc : p ≥ q) (c : WS C Q ops tail rest ((d, .bool true) :: l) m) : WS C Q ops tail (⟨some d, .binOp .geq t x y t', ty, pos, af, g⟩ :: rest) l m := WS.q (Qv.geq_t hx hy hc) rfl (okk_1 h) (okk_2 h) c
theorem s_geF (hx : opv l x = some (.int k p)) (hy : opv l y = some (.int k q)) (h : okk ops l g d C.n = true) (hc : ¬ p ≥ q) (c : WS C Q ops tail rest ((d, .bool false) :: l) m) : WS C Q ops tail (⟨some d, .binOp .geq t x y t', ty, pos, af, g⟩ :: rest) l m := WS.q (Qv.geq_f hx hy hc) rfl (okk_1 h) (okk_2 h) c
theorem s_eqT (hx : opv l x = some (.int k p)) (hy : opv l y = some (.int k q)) (h : okk ops l g d C.n = true) (hc : p = q) (c : WS C Q ops tail rest ((d, .bool true) :: l) m) : WS C Q ops tail (⟨some d, .binOp .eql t x y t', ty, pos, af, g⟩ :: rest) l m := WS.q (Qv.eql_t hx hy hc) rfl (okk_1 h) (okk_2 h) c
theorem s_eqF (hx : opv l x = some (.int k p)) (hy : opv l y = some (.int k q)) (h : okk ops l g d C.n = true) (hc : ¬ p = q) (c : WS C Q ops tail rest ((d, .bool false) :: l) m) : WS C Q ops tail (⟨some d, .binOp .eql t x y t', ty, pos, af, g⟩ :: rest) l m := WS.q (Qv.eql_f hx hy hc) rfl (okk_1 h) (okk_2 h) c
theorem s_neT (hx : opv l x = some (.int k p)) (hy : opv l y = some (.int k q)) (h : okk ops l g d C.n = true) (hc : ¬ p = q) (c : WS C Q ops tail rest ((d, .bool true) :: l) m) : WS C Q ops tail (⟨some d, .binOp .neq t x y t', ty, pos, af, g⟩ :: rest) l m := WS.q (Qv.neq_t hx hy hc) rfl (okk_1 h) (okk_2 h) c
theorem s_neF (hx : opv l x = some (.int k p)) (hy : opv l y = some (.int k q)) (h : okk ops l g d C.n = true) (hc : p = q) (c : WS C Q ops tail rest ((d, .bool false) :: l) m) : WS C Q ops tail (⟨some d, .binOp .neq t x y t', ty, pos, af, g⟩ :: rest) l m := WS.q (Qv.neq_f hx hy hc) rfl (okk_1 h) (okk_2 h) c
theorem s_ad (hx : opv l x = some (.int k p)) (hy : opv l y = some (.int k q)) (h : okk ops l g d C.n = true) (hw : k.wrap (p + q) = r) (c : WS C Q ops tail rest ((d, .int k r) :: l) m) : WS C Q ops tail (⟨some d, .binOp .add t x y t', ty, pos, af, g⟩ :: rest) l m := WS.q (Qv.add hx hy hw) rfl (okk_1 h) (okk_2 h) c
theorem s_su (hx : opv l x = some (.int k p)) (hy : opv l y = some (.int k q)) (h : okk ops l g d C.n = true) (hw : k.wrap (p - q) = r) (c : WS C Q ops tail rest ((d, .int k r) :: l) m) : WS C Q ops tail (⟨some d, .binOp .sub t x y t', ty, pos, af, g⟩ :: rest) l m := WS.q (Qv.sub hx hy hw) rfl (okk_1 h) (okk_2 h) c
theorem s_mu (hx : opv l x = some (.int k p)) (hy : opv l y = some (.int k q)) (h : okk ops l g d C.n = true) (hw : k.wrap (p * q) = r) (c : WS C Q ops tail rest ((d, .int k r) :: l) m) : WS C Q ops tail (⟨some d, .binOp .mul t x y t', ty, pos, af, g⟩ :: rest) l m := WS.q (Qv.mul hx hy hw) rfl (okk_1 h) (okk_2 h) c
theorem s_qu (hx : opv l x = some (.int k p)) (hy : opv l y = some (.int k q)) (h : okk ops l g d C.n = true) (hq : q ≠ 0) (hw : k.wrap (p.tdiv q) = r) (c : WS C Q ops tail rest ((d, .int k r) :: l) m) : WS C Q ops tail (⟨some d, .binOp .quo t x y t', ty, pos, af, g⟩ :: rest) l m :=
  WS.q (Qv.bin hx hy (fun _ _ => eqGuard_at_int ..) (fun w _ => by rw [binOp_quo, ← hw]; simp [Op.intDiv, hq])) rfl (okk_1 h) (okk_2 h) c
theorem s_re (hx : opv l x = some (.int k p)) (hy : opv l y = some (.int k q)) (h : okk ops l g d C.n = true) (hq : q ≠ 0) (hw : p.tmod q = r) (c : WS C Q ops tail rest ((d, .int k r) :: l) m) : WS C Q ops tail (⟨some d, .binOp .rem t x y t', ty, pos, af, g⟩ :: rest) l m :=
  WS.q (Qv.bin hx hy (fun _ _ => eqGuard_at_int ..) (fun w _ => by rw [binOp_rem, ← hw]; simp [Op.intDiv, hq])) rfl (okk_1 h) (okk_2 h) c
theorem s_ls {e : TypeId} {A : Option Addr} {n c : Nat} (ht : C.P.underlying t = some (.slice e)) (hx : opv l x = some (.slice A n c)) (h : okk ops l g d C.n = true) (k : WS C Q ops tail rest ((d, .int .i64 n) :: l) m) :
    WS C Q ops tail (⟨some d, .call { callee := .builtin .len, args := #[x], argTypes := #[t] }, ty, pos, af, g⟩ :: rest) l m := WS.q (Qv.len_slice ht hx) rfl (okk_1 h) (okk_2 h) k
theorem s_lS {s : ByteArray} (ht : C.P.underlying t = some .string) (hx : opv l x = some (.string s)) (h : okk ops l g d C.n = true) (k : WS C Q ops tail rest ((d, .int .i64 s.size) :: l) m) :
    WS C Q ops tail (⟨some d, .call { callee := .builtin .len, args := #[x], argTypes := #[t] }, ty, pos, af, g⟩ :: rest) l m := WS.q (Qv.len_string ht hx) rfl (okk_1 h) (okk_2 h) k
theorem s_mi (hx : opv l x = some u) (hr : ∀ w, (Instr.makeInterface t u).run C.P w = .ok (.iface t u) w) (h : okk ops l g d C.n = true) (c : WS C Q ops tail rest ((d, .iface t u) :: l) m) : WS C Q ops tail (⟨some d, .makeInterface t x, ty, pos, af, g⟩ :: rest) l m := WS.q (Qv.makeInterface hx hr) rfl (okk_1 h) (okk_2 h) c
theorem s_fn {f : Fn} {xs : List Operand} {vs : List Value} (hx : opvs l xs = some vs) (h : okk ops l g d C.n = true) (c : WS C Q ops tail rest ((d, .func f #[] vs.toArray) :: l) m) : WS C Q ops tail (⟨some d, .makeFunc f #[] xs.toArray, ty, pos, af, g⟩ :: rest) l m := WS.q (Qv.makeFunc hx) rfl (okk_1 h) (okk_2 h) c
theorem s_fa (o' : Nat) {i bb o : Nat} (hx : opv l x = some (.pointer (some ⟨bb, o, none⟩))) (hr : ∀ w, (Instr.fieldAt t (.pointer (some ⟨bb, o, none⟩)) i).run C.P w = .ok (.pointer (some ⟨bb, o', none⟩)) w) (h : okk ops l g d C.n = true) (c : WS C Q ops tail rest ((d, .pointer (some ⟨bb, o', none⟩)) :: l) m) : WS C Q ops tail (⟨some d, .fieldAddr t x i, ty, pos, af, g⟩ :: rest) l m := WS.q (Qv.fieldAddr hx hr) rfl (okk_1 h) (okk_2 h) c
theorem s_fi {i : Nat} (hx : opv l x = some u) (hr : ∀ w, (Instr.field t u i).run C.P w = .ok v w) (h : okk ops l g d C.n = true) (c : WS C Q ops tail rest ((d, v) :: l) m) : WS C Q ops tail (⟨some d, .field t x i, ty, pos, af, g⟩ :: rest) l m := WS.q (Qv.field hx hr) rfl (okk_1 h) (okk_2 h) c
theorem s_f1 (o : Nat) {i : Nat} {cs : List Value} (hx : opv l x = some (.agg cs.toArray)) (hv : cs[o]? = some v) (hr : ∀ w, (Instr.field t (.agg cs.toArray) i).run C.P w = .ok v w) (h : okk ops l g d C.n = true) (c : WS C Q ops tail rest ((d, v) :: l) m) : WS C Q ops tail (⟨some d, .field t x i, ty, pos, af, g⟩ :: rest) l m := WS.q (Qv.field hx hr) rfl (okk_1 h) (okk_2 h) c
theorem s_ix {i : Value} (hx : opv l x = some u) (hy : opv l y = some i) (hr : ∀ w, (Instr.index t u i).run C.P w = .ok v w) (h : okk ops l g d C.n = true) (c : WS C Q ops tail rest ((d, v) :: l) m) : WS C Q ops tail (⟨some d, .index t x y, ty, pos, af, g⟩ :: rest) l m := WS.q (Qv.index hx hy hr) rfl (okk_1 h) (okk_2 h) c
theorem s_ia {e : TypeId} {A : Option Addr} {n c : Nat} {i : Int} (ht : C.P.underlying t = some (.slice e)) (he : (C.P.info? e).map (·.size) = some 1) (hx : opv l x = some (.slice A n c)) (hy : opv l y = some (.int k i)) (h : okk ops l g d C.n = true)
    (hA : 0 < n → A.isSome = true) (h0 : 0 ≤ i) (h1 : i < n) (cc : WS C Q ops tail rest ((d, .pointer (A.map (·.add i.toNat))) :: l) m) : WS C Q ops tail (⟨some d, .indexAddr t x y, ty, pos, af, g⟩ :: rest) l m := WS.q (Qv.indexAddr ht he hx hy hA h0 h1) rfl (okk_1 h) (okk_2 h) cc
theorem s_im {α : Type} {f : α → Value} {xs : List α} {e : TypeId} {A : Option Addr} {n c : Nat} {i : Int} (hr : Rd C.w0 (m ++ C.m0) A (xs.map f)) (ht : C.P.underlying t = some (.slice e)) (he : (C.P.info? e).map (·.size) = some 1) (hx : opv l x = some (.slice A n c)) (hy : opv l y = some (.int k i)) (h : okk ops l g d C.n = true)
    (hn : xs.length = n) (h0 : 0 ≤ i) (h1 : i < xs.length) (cc : WS C Q ops tail rest ((d, .pointer (A.map (·.add i.toNat))) :: l) m) : WS C Q ops tail (⟨some d, .indexAddr t x y, ty, pos, af, g⟩ :: rest) l m := WS.q (Qv.indexMap ht he hx hy hr hn h0 h1) rfl (okk_1 h) (okk_2 h) cc
theorem s_li (j : Nat) {xs : List Int} {kk : IntKind} {dd : TypeDesc} {A : Option Addr} (hr : Rd C.w0 (m ++ C.m0) A (xs.map (.int kk ·))) (ht : C.P.underlying t = some dd) (h1 : oneTy dd = true) (hx : opv l x = some (.pointer (A.map (·.add j)))) (h : okk ops l g d C.n = true) (hj : j < xs.length) (c : WS C Q ops tail rest ((d, .int kk (xs.getD j 0)) :: l) m) :
    WS C Q ops tail (⟨some d, .load t x, ty, pos, af, g⟩ :: rest) l m := WS.q (Qv.load_rd ht h1 hx hr (by simp [hj])) rfl (okk_1 h) (okk_2 h) c
theorem s_lt (j : Nat) {xs : List ByteArray} {dd : TypeDesc} {A : Option Addr} (hr : Rd C.w0 (m ++ C.m0) A (xs.map (.string ·))) (ht : C.P.underlying t = some dd) (h1 : oneTy dd = true) (hx : opv l x = some (.pointer (A.map (·.add j)))) (h : okk ops l g d C.n = true) (hj : j < xs.length) (c : WS C Q ops tail rest ((d, .string (xs.getD j ⟨#[]⟩)) :: l) m) :
    WS C Q ops tail (⟨some d, .load t x, ty, pos, af, g⟩ :: rest) l m := WS.q (Qv.load_rd ht h1 hx hr (by simp [hj])) rfl (okk_1 h) (okk_2 h) c
theorem s_cv {t u : TypeId} {v r : Value} (hx : opv l x = some v) (hr : ∀ w, (convert t u v).run C.P w = .ok r w) (h : okk ops l g d C.n = true) (c : WS C Q ops tail rest ((d, r) :: l) m) : WS C Q ops tail (⟨some d, .convert t u x, ty, pos, af, g⟩ :: rest) l m := WS.q (Qv.convert hx hr) rfl (okk_1 h) (okk_2 h) c
theorem s_bu {ps : List (Nat × Operand)} {vs : List (Nat × Value)} (hps : opps l ps = some vs) (hr : ∀ w, (Instr.build t vs.toArray).run C.P w = .ok v w) (h : okk ops l g d C.n = true) (c : WS C Q ops tail rest ((d, v) :: l) m) : WS C Q ops tail (⟨some d, .build t ps.toArray, ty, pos, af, g⟩ :: rest) l m := WS.q (Qv.build hps hr) rfl (okk_1 h) (okk_2 h) c
theorem s_lr {dd : TypeDesc} {A : Option Addr} {i : Nat} {xs : List Value} (ht : C.P.underlying t = some dd) (h1 : oneTy dd = true) (hx : opv l x = some (.pointer (A.map (·.add i)))) (h : okk ops l g d C.n = true) (hr : Rd C.w0 (m ++ C.m0) A xs) (hv : xs[i]? = some v) (c : WS C Q ops tail rest ((d, v) :: l) m) :
    WS C Q ops tail (⟨some d, .load t x, ty, pos, af, g⟩ :: rest) l m := WS.q (Qv.load_rd ht h1 hx hr hv) rfl (okk_1 h) (okk_2 h) c
theorem s_lb {dd : TypeDesc} {bb o : Nat} (i : Nat) {cs : List Value} {e : TypeId} (ht : C.P.underlying t = some dd) (h1 : oneTy dd = true) (hx : opv l x = some (.pointer (some ⟨bb, o, none⟩))) (h : okk ops l g d C.n = true) (hi : m[i]? = some (.blk bb cs e)) (hv : cs[o]? = some v) (c : WS C Q ops tail rest ((d, v) :: l) m) :
    WS C Q ops tail (⟨some d, .load t x, ty, pos, af, g⟩ :: rest) l m := WS.q (Qv.load_blk ht h1 hx hi hv) rfl (okk_1 h) (okk_2 h) c
theorem s_la {dd : TypeDesc} {bb : Nat} (i : Nat) {cs : List Value} {e : TypeId} (ht : C.P.underlying t = some dd) (h1 : oneTy dd = false) (hz : (C.P.info? t).map (·.size) = some cs.length) (hx : opv l x = some (.pointer (some ⟨bb, 0, none⟩))) (h : okk ops l g d C.n = true) (hi : m[i]? = some (.blk bb cs e)) (c : WS C Q ops tail rest ((d, .agg cs.toArray) :: l) m) :
    WS C Q ops tail (⟨some d, .load t x, ty, pos, af, g⟩ :: rest) l m := WS.q (Qv.load_all ht h1 hz hx hi) rfl (okk_1 h) (okk_2 h) c
theorem s_ta {t u : TypeId} {e : Bool} {v r : Value} (hx : opv l x = some v) (hr : ∀ w, (Instr.typeAssert v t u e).run C.P w = .ok r w) (h : okk ops l g d C.n = true) (c : WS C Q ops tail rest ((d, r) :: l) m) : WS C Q ops tail (⟨some d, .typeAssert x t u e, ty, pos, af, g⟩ :: rest) l m := WS.q (Qv.typeAssert hx hr) rfl (okk_1 h) (okk_2 h) c
theorem s_bi {op : BinOp} (hx : opv l x = some u) (hy : opv l y = some v) (hgd : ∀ x y, eqGuard op t x y u v = pure ()) {s : Value} (hr : ∀ w, Mem C.w0 (m ++ C.m0) w → (binOp op t u v).run C.P w = .ok s w) (h : okk ops l g d C.n = true) (c : WS C Q ops tail rest ((d, s) :: l) m) : WS C Q ops tail (⟨some d, .binOp op t x y t', ty, pos, af, g⟩ :: rest) l m := WS.q (Qv.bin hx hy hgd hr) rfl (okk_1 h) (okk_2 h) c
theorem s_iS {s : ByteArray} {i : Int} {v : UInt8} (ht : C.P.underlying t = some .string) (hx : opv l x = some (.string s)) (hy : opv l y = some (.int k i)) (h : okk ops l g d C.n = true) (h0 : 0 ≤ i) (hv : s.data[i.toNat]? = some v) (c : WS C Q ops tail rest ((d, .int .u8 v.toNat) :: l) m) : WS C Q ops tail (⟨some d, .index t x y, ty, pos, af, g⟩ :: rest) l m := WS.q (Qv.index_str ht hx hy h0 hv) rfl (okk_1 h) (okk_2 h) c
theorem s_bd {ps : List (Nat × Operand)} {vs : List Value} (hps : opds l 0 ps = some vs) (hr : ∀ w, (Instr.build t (numbered 0 vs).toArray).run C.P w = .ok (.agg vs.toArray) w) (h : okk ops l g d C.n = true) (c : WS C Q ops tail rest ((d, .agg vs.toArray) :: l) m) : WS C Q ops tail (⟨some d, .build t ps.toArray, ty, pos, af, g⟩ :: rest) l m := WS.q (Qv.build (opps_of ps 0 vs hps) hr) rfl (okk_1 h) (okk_2 h) c


/-! ### Calls of functions without a text, and by a method's name -/
theorem s_xv {f : FuncId} {fo : Operand} {xs : List Operand} {vs : List Value} {ts : Array TypeId} (hfo : opv l fo = some (.func (.func f) #[] #[])) (hxs : opvs l xs = some vs) (hr : ∀ w, (callFunc f vs.toArray).run C.P w = .ok (.value v) w) (h : okk ops l g d C.n = true) (c : WS C Q ops tail rest ((d, v) :: l) m) :
    WS C Q ops tail (⟨some d, .call { callee := .value fo, args := xs.toArray, argTypes := ts }, ty, pos, af, g⟩ :: rest) l m :=
  WS.q (fun ev hev w _ => by
    have h1 := opvs_map hev xs vs hxs
    simp [execOp, resolve, hev fo _ hfo, Deferred.ofValue, invoke, h1, hr w]) rfl (okk_1 h) (okk_2 h) c
theorem s_iv {name : String} {xs : List Operand} {vs : List Value} {ts : Array TypeId} (hx : opv l x = some u) (hxs : opvs l xs = some vs) (hr : ∀ w, (callMethod u name vs.toArray).run C.P w = .ok (.value v) w) (h : okk ops l g d C.n = true) (c : WS C Q ops tail rest ((d, v) :: l) m) :
    WS C Q ops tail (⟨some d, .call { callee := .invoke x name, args := xs.toArray, argTypes := ts }, ty, pos, af, g⟩ :: rest) l m :=
  WS.q (fun ev hev w _ => by
    have h1 := opvs_map hev xs vs hxs
    have h2 : Array.extract (#[u] ++ vs.toArray) 1 (#[u] ++ vs.toArray).size = vs.toArray := by simp
    simp only [execOp, resolve, hev x _ hx, List.map_toArray, h1, Sem.run_bind, Sem.run_pure, Result.andThen_ok, invoke]
    simp [hr w]) rfl (okk_1 h) (okk_2 h) c
theorem s_bk (s : Value) {op : BinOp} (hx : opv l x = some u) (hy : opv l y = some v) (hr : ∀ w, ((do eqGuard op t x y u v; binOp op t u v : Sem Value)).run C.P w = .ok s w) (h : okk ops l g d C.n = true) (c : WS C Q ops tail rest ((d, s) :: l) m) : WS C Q ops tail (⟨some d, .binOp op t x y t', ty, pos, af, g⟩ :: rest) l m :=
  WS.q (fun ev hev w _ => by
    have := hr w
    simp only [execOp, hev x _ hx, hev y _ hy]
    simp only [Sem.run_bind] at this ⊢
    rw [this]; rfl) rfl (okk_1 h) (okk_2 h) c
theorem s_bq {e e' : Bool} (ht : C.P.underlying t = some .bool) (hx : opv l x = some (.bool e)) (hy : opv l y = some (.bool e')) (h : okk ops l g d C.n = true) (c : WS C Q ops tail rest ((d, .bool (e == e')) :: l) m) : WS C Q ops tail (⟨some d, .binOp .eql t x y t', ty, pos, af, g⟩ :: rest) l m :=
  WS.q (Qv.bin hx hy (fun _ _ => eqGuard_at_bool ..) (fun w _ => run_eql_bool w t e e' ht)) rfl (okk_1 h) (okk_2 h) c

/-! ### Ranging over a string -/
theorem s_mx (hx : opv l x = some (.int k p)) (hy : opv l y = some (.int k' q)) (h : okk ops l g d C.n = true) (c : WS C Q ops tail rest ((d, .int k (max p q)) :: l) m) :
    WS C Q ops tail (⟨some d, .call { callee := .builtin .max, args := #[x, y], argTypes := #[t, t'] }, ty, pos, af, g⟩ :: rest) l m :=
  WS.q (fun ev hev w _ => by simp [execOp, resolve, invoke, builtin, hev x _ hx, hev y _ hy, Go.Lib.run_max_ints]) rfl (okk_1 h) (okk_2 h) c
theorem s_mn (hx : opv l x = some (.int k p)) (hy : opv l y = some (.int k' q)) (h : okk ops l g d C.n = true) (c : WS C Q ops tail rest ((d, .int k (min p q)) :: l) m) :
    WS C Q ops tail (⟨some d, .call { callee := .builtin .min, args := #[x, y], argTypes := #[t, t'] }, ty, pos, af, g⟩ :: rest) l m :=
  WS.q (fun ev hev w _ => by simp [execOp, resolve, invoke, builtin, hev x _ hx, hev y _ hy, Go.Lib.run_min_ints]) rfl (okk_1 h) (okk_2 h) c
theorem s_cp {e : TypeId} {A : Option Addr} {n c : Nat} (ht : C.P.underlying t = some (.slice e)) (hx : opv l x = some (.slice A n c)) (h : okk ops l g d C.n = true) (cc : WS C Q ops tail rest ((d, .int .i64 c) :: l) m) :
    WS C Q ops tail (⟨some d, .call { callee := .builtin .cap, args := #[x], argTypes := #[t] }, ty, pos, af, g⟩ :: rest) l m := WS.q (Qv.cap ht hx) rfl (okk_1 h) (okk_2 h) cc
theorem s_sS {s : ByteArray} {i j : Int} (ht : C.P.underlying t = some .string) (hx : opv l x = some (.string s)) (hy : opv l y = some (.int k i)) (hz : opv l z = some (.int k' j)) (h0 : 0 ≤ i) (h1 : i ≤ j) (h2 : j ≤ s.size) (h : okk ops l g d C.n = true) (c : WS C Q ops tail rest ((d, .string (s.extract i.toNat j.toNat)) :: l) m) :
    WS C Q ops tail (⟨some d, .slice t x (some y) (some z) none, ty, pos, af, g⟩ :: rest) l m := WS.q (Qv.sliceStr ht hx hy hz h0 h1 h2) rfl (okk_1 h) (okk_2 h) c
theorem s_sT {s : ByteArray} {j : Int} (ht : C.P.underlying t = some .string) (hx : opv l x = some (.string s)) (hz : opv l z = some (.int k' j)) (h1 : 0 ≤ j) (h2 : j ≤ s.size) (h : okk ops l g d C.n = true) (c : WS C Q ops tail rest ((d, .string (s.extract 0 j.toNat)) :: l) m) :
    WS C Q ops tail (⟨some d, .slice t x none (some z) none, ty, pos, af, g⟩ :: rest) l m :=
  WS.q (fun ev hev w _ => by simp [execOp, hev x _ hx, hev z _ hz, Instr.sliceAt, run_underlying ht, run_slice_to w t s k' j ht h1 h2]) rfl (okk_1 h) (okk_2 h) c
theorem s_sF {s : ByteArray} {i : Int} (ht : C.P.underlying t = some .string) (hx : opv l x = some (.string s)) (hy : opv l y = some (.int k i)) (h0 : 0 ≤ i) (h2 : i ≤ s.size) (h : okk ops l g d C.n = true) (c : WS C Q ops tail rest ((d, .string (s.extract i.toNat s.size)) :: l) m) :
    WS C Q ops tail (⟨some d, .slice t x (some y) none none, ty, pos, af, g⟩ :: rest) l m :=
  WS.q (fun ev hev w _ => by simp [execOp, hev x _ hx, hev y _ hy, Instr.sliceAt, run_underlying ht, run_slice_from w t s k i ht h0 h2]) rfl (okk_1 h) (okk_2 h) c
theorem s_cm {r : Value} (hx : opv l x = some v) (hr : ∀ w, Mem C.w0 (m ++ C.m0) w → (convert t t2 v).run C.P w = .ok r w) (h : okk ops l g d C.n = true) (c : WS C Q ops tail rest ((d, r) :: l) m) : WS C Q ops tail (⟨some d, .convert t t2 x, ty, pos, af, g⟩ :: rest) l m :=
  WS.q (fun ev hev w hw => by simp [execOp, hev x _ hx, hr w hw]) rfl (okk_1 h) (okk_2 h) c
theorem s_sf {A : Option Addr} {n c : Nat} {i : Int} (ht : C.P.underlying t = some (.slice (C.P.elem t))) (hz : ∀ w, (sizeOf (C.P.elem t)).run C.P w = .ok 1 w) (hx : opv l x = some (.slice A n c)) (hy : opv l y = some (.int k i)) (h0 : 0 ≤ i) (h1 : i ≤ n) (h : okk ops l g d C.n = true) (cc : WS C Q ops tail rest ((d, sliced A i.toNat n c 1) :: l) m) :
    WS C Q ops tail (⟨some d, .slice t x (some y) none none, ty, pos, af, g⟩ :: rest) l m := WS.q (Qv.slFrom ht hz hx hy h0 h1) rfl (okk_1 h) (okk_2 h) cc
theorem s_sto {A : Option Addr} {n c : Nat} {i : Int} (ht : C.P.underlying t = some (.slice (C.P.elem t))) (hz : ∀ w, (sizeOf (C.P.elem t)).run C.P w = .ok 1 w) (hx : opv l x = some (.slice A n c)) (hy : opv l y = some (.int k i)) (h0 : 0 ≤ i) (h1 : i ≤ c) (h : okk ops l g d C.n = true) (cc : WS C Q ops tail rest ((d, sliced A 0 i.toNat c 1) :: l) m) :
    WS C Q ops tail (⟨some d, .slice t x none (some y) none, ty, pos, af, g⟩ :: rest) l m := WS.q (Qv.slTo ht hz hx hy h0 h1) rfl (okk_1 h) (okk_2 h) cc
theorem s_st0 (j : Nat) {gg n c : Nat} {q : Int} (ht : C.P.underlying t = some (.slice (C.P.elem t))) (hz : ∀ w, (sizeOf (C.P.elem t)).run C.P w = .ok 1 w) (hx : opv l x = some (.slice (some ⟨gg, 0, none⟩) n c)) (hy : opv l y = some (.int k q)) (hq : q = (j : Int)) (h1 : j ≤ c) (h : okk ops l g d C.n = true) (cc : WS C Q ops tail rest ((d, .slice (some ⟨gg, 0, none⟩) j c) :: l) m) :
    WS C Q ops tail (⟨some d, .slice t x none (some y) none, ty, pos, af, g⟩ :: rest) l m := WS.q (Qv.st0 j ht hz hx hy hq h1) rfl (okk_1 h) (okk_2 h) cc
theorem s_sfj (j : Nat) {gg n c : Nat} {q : Int} (ht : C.P.underlying t = some (.slice (C.P.elem t))) (hz : ∀ w, (sizeOf (C.P.elem t)).run C.P w = .ok 1 w) (hx : opv l x = some (.slice (some ⟨gg, 0, none⟩) n c)) (hy : opv l y = some (.int k q)) (hq : q = (j : Int)) (h1 : j ≤ n) (h2 : j ≠ c) (h : okk ops l g d C.n = true) (cc : WS C Q ops tail rest ((d, .slice (some ⟨gg, j, none⟩) (n - j) (c - j)) :: l) m) :
    WS C Q ops tail (⟨some d, .slice t x (some y) none none, ty, pos, af, g⟩ :: rest) l m := WS.q (Qv.sfj j ht hz hx hy hq h1 h2) rfl (okk_1 h) (okk_2 h) cc
theorem t_mv (hx : opv l x = some v) (h : okk ops l g d C.n = true) (c : WT C Q ops rest ((d, v) :: l) m) : WT C Q ops (⟨some d, .move x, ty, pos, af, g⟩ :: rest) l m := WT.q (Qv.move hx) rfl (okk_1 h) (okk_2 h) c
theorem t_as (hx : opv l x = some v) (h : okk ops l g d C.n = true) (c : WT C Q ops rest ((d, v) :: l) m) : WT C Q ops (⟨some d, .assign x, ty, pos, af, g⟩ :: rest) l m := WT.q (Qv.assign hx) rfl (okk_1 h) (okk_2 h) c
theorem t_pT (hx : opv l x = some (.bool true)) (hy : opv l y = some v) (h : okk ops l g d C.n = true) (c : WT C Q ops rest ((d, v) :: l) m) : WT C Q ops (⟨some d, .pick x y z, ty, pos, af, g⟩ :: rest) l m := WT.q (Qv.pick_t hx hy) rfl (okk_1 h) (okk_2 h) c
theorem t_pF (hx : opv l x = some (.bool false)) (hy : opv l z = some v) (h : okk ops l g d C.n = true) (c : WT C Q ops rest ((d, v) :: l) m) : WT C Q ops (⟨some d, .pick x y z, ty, pos, af, g⟩ :: rest) l m := WT.q (Qv.pick_f hx hy) rfl (okk_1 h) (okk_2 h) c
theorem t_ex {i : Nat} {vs : List Value} (hx : opv l x = some (.tuple vs.toArray)) (hi : vs[i]? = some v) (h : okk ops l g d C.n = true) (c : WT C Q ops rest ((d, v) :: l) m) : WT C Q ops (⟨some d, .extract x i, ty, pos, af, g⟩ :: rest) l m := WT.q (Qv.extract hx (by simpa using hi)) rfl (okk_1 h) (okk_2 h) c
theorem t_no {e e' : Bool} (hx : opv l x = some (.bool e)) (hv : (!e) = e') (h : okk ops l g d C.n = true) (c : WT C Q ops rest ((d, .bool e') :: l) m) : WT C Q ops (⟨some d, .unOp .not t x, ty, pos, af, g⟩ :: rest) l m := by subst hv; exact WT.q (Qv.not_ hx) rfl (okk_1 h) (okk_2 h) c
theorem t_nc {a : Addr} (hx : opv l x = some (.pointer (some a))) (h : okk ops l g d C.n = true) (c : WT C Q ops rest ((d, .pointer (some a)) :: l) m) : WT C Q ops (⟨some d, .nilCheck x, ty, pos, af, g⟩ :: rest) l m := WT.q (Qv.nilCheck hx) rfl (okk_1 h) (okk_2 h) c
theorem t_ltT (hx : opv l x = some (.int k p)) (hy : opv l y = some (.int k q)) (h : okk ops l g d C.n = true) (hc : p < q) (c : WT C Q ops rest ((d, .bool true) :: l) m) : WT C Q ops (⟨some d, .binOp .lss t x y t', ty, pos, af, g⟩ :: rest) l m := WT.q (Qv.lss_t hx hy hc) rfl (okk_1 h) (okk_2 h) c
theorem t_ltF (hx : opv l x = some (.int k p)) (hy : opv l y = some (.int k q)) (h : okk ops l g d C.n = true) (hc : ¬ p < q) (c : WT C Q ops rest ((d, .bool false) :: l) m) : WT C Q ops (⟨some d, .binOp .lss t x y t', ty, pos, af, g⟩ :: rest) l m := WT.q (Qv.lss_f hx hy hc) rfl (okk_1 h) (okk_2 h) c
theorem t_leT (hx : opv l x = some (.int k p)) (hy : opv l y = some (.int k q)) (h : okk ops l g d C.n = true) (hc : p ≤ q) (c : WT C Q ops rest ((d, .bool true) :: l) m) : WT C Q ops (⟨some d, .binOp .leq t x y t', ty, pos, af, g⟩ :: rest) l m := WT.q (Qv.leq_t hx hy hc) rfl (okk_1 h) (okk_2 h) c
theorem t_leF (hx : opv l x = some (.int k p)) (hy : opv l y = some (.int k q)) (h : okk ops l g d C.n = true) (hc : ¬ p ≤ q) (c : WT C Q ops rest ((d, .bool false) :: l) m) : WT C Q ops (⟨some d, .binOp .leq t x y t', ty, pos, af, g⟩ :: rest) l m := WT.q (Qv.leq_f hx hy hc) rfl (okk_1 h) (okk_2 h) c
theorem t_gtT (hx : opv l x = some (.int k p)) (hy : opv l y = some (.int k q)) (h : okk ops l g d C.n = true) (hc : p > q) (c : WT C Q ops rest ((d, .bool true) :: l) m) : WT C Q ops (⟨some d, .binOp .gtr t x y t', ty, pos, af, g⟩ :: rest) l m := WT.q (Qv.gtr_t hx hy hc) rfl (okk_1 h) (okk_2 h) c
theorem t_gtF (hx : opv l x = some (.int k p)) (hy : opv l y = some (.int k q)) (h : okk ops l g d C.n = true) (hc : ¬ p > q) (c : WT C Q ops rest ((d, .bool false) :: l) m) : WT C Q ops (⟨some d, .binOp .gtr t x y t', ty, pos, af, g⟩ :: rest) l m := WT.q (Qv.gtr_f hx hy hc) rfl (okk_1 h) (okk_2 h) c
theorem t_geT (hx : opv l x = some (.int k p)) (hy : opv l y = some (.int k q)) (h : okk ops l g d C.n = true) (hc : p ≥ q) (c : WT C Q ops rest ((d, .bool true) :: l) m) : WT C Q ops (⟨some d, .binOp .geq t x y t', ty, pos, af, g⟩ :: rest) l m := WT.q (Qv.geq_t hx hy hc) rfl (okk_1 h) (okk_2 h) c
theorem t_geF (hx : opv l x = some (.int k p)) (hy : opv l y = some (.int k q)) (h : okk ops l g d C.n = true) (hc : ¬ p ≥ q) (c : WT C Q ops rest ((d, .bool false) :: l) m) : WT C Q ops (⟨some d, .binOp .geq t x y t', ty, pos, af, g⟩ :: rest) l m := WT.q (Qv.geq_f hx hy hc) rfl (okk_1 h) (okk_2 h) c
theorem t_eqT (hx : opv l x = some (.int k p)) (hy : opv l y = some (.int k q)) (h : okk ops l g d C.n = true) (hc : p = q) (c : WT C Q ops rest ((d, .bool true) :: l) m) : WT C Q ops (⟨some d, .binOp .eql t x y t', ty, pos, af, g⟩ :: rest) l m := WT.q (Qv.eql_t hx hy hc) rfl (okk_1 h) (okk_2 h) c
theorem t_eqF (hx : opv l x = some (.int k p)) (hy : opv l y = some (.int k q)) (h : okk ops l g d C.n = true) (hc : ¬ p = q) (c : WT C Q ops rest ((d, .bool false) :: l) m) : WT C Q ops (⟨some d, .binOp .eql t x y t', ty, pos, af, g⟩ :: rest) l m := WT.q (Qv.eql_f hx hy hc) rfl (okk_1 h) (okk_2 h) c
theorem t_neT (hx : opv l x = some (.int k p)) (hy : opv l y = some (.int k q)) (h : okk ops l g d C.n = true) (hc : ¬ p = q) (c : WT C Q ops rest ((d, .bool true) :: l) m) : WT C Q ops (⟨some d, .binOp .neq t x y t', ty, pos, af, g⟩ :: rest) l m := WT.q (Qv.neq_t hx hy hc) rfl (okk_1 h) (okk_2 h) c
theorem t_neF (hx : opv l x = some (.int k p)) (hy : opv l y = some (.int k q)) (h : okk ops l g d C.n = true) (hc : p = q) (c : WT C Q ops rest ((d, .bool false) :: l) m) : WT C Q ops (⟨some d, .binOp .neq t x y t', ty, pos, af, g⟩ :: rest) l m := WT.q (Qv.neq_f hx hy hc) rfl (okk_1 h) (okk_2 h) c
theorem t_ad (hx : opv l x = some (.int k p)) (hy : opv l y = some (.int k q)) (h : okk ops l g d C.n = true) (hw : k.wrap (p + q) = r) (c : WT C Q ops rest ((d, .int k r) :: l) m) : WT C Q ops (⟨some d, .binOp .add t x y t', ty, pos, af, g⟩ :: rest) l m := WT.q (Qv.add hx hy hw) rfl (okk_1 h) (okk_2 h) c
theorem t_su (hx : opv l x = some (.int k p)) (hy : opv l y = some (.int k q)) (h : okk ops l g d C.n = true) (hw : k.wrap (p - q) = r) (c : WT C Q ops rest ((d, .int k r) :: l) m) : WT C Q ops (⟨some d, .binOp .sub t x y t', ty, pos, af, g⟩ :: rest) l m := WT.q (Qv.sub hx hy hw) rfl (okk_1 h) (okk_2 h) c
theorem t_mu (hx : opv l x = some (.int k p)) (hy : opv l y = some (.int k q)) (h : okk ops l g d C.n = true) (hw : k.wrap (p * q) = r) (c : WT C Q ops rest ((d, .int k r) :: l) m) : WT C Q ops (⟨some d, .binOp .mul t x y t', ty, pos, af, g⟩ :: rest) l m := WT.q (Qv.mul hx hy hw) rfl (okk_1 h) (okk_2 h) c
theorem t_qu (hx : opv l x = some (.int k p)) (hy : opv l y = some (.int k q)) (h : okk ops l g d C.n = true) (hq : q ≠ 0) (hw : k.wrap (p.tdiv q) = r) (c : WT C Q ops rest ((d, .int k r) :: l) m) : WT C Q ops (⟨some d, .binOp .quo t x y t', ty, pos, af, g⟩ :: rest) l m :=
  WT.q (Qv.bin hx hy (fun _ _ => eqGuard_at_int ..) (fun w _ => by rw [binOp_quo, ← hw]; simp [Op.intDiv, hq])) rfl (okk_1 h) (okk_2 h) c
theorem t_re (hx : opv l x = some (.int k p)) (hy : opv l y = some (.int k q)) (h : okk ops l g d C.n = true) (hq : q ≠ 0) (hw : p.tmod q = r) (c : WT C Q ops rest ((d, .int k r) :: l) m) : WT C Q ops (⟨some d, .binOp .rem t x y t', ty, pos, af, g⟩ :: rest) l m :=
  WT.q (Qv.bin hx hy (fun _ _ => eqGuard_at_int ..) (fun w _ => by rw [binOp_rem, ← hw]; simp [Op.intDiv, hq])) rfl (okk_1 h) (okk_2 h) c
theorem t_ls {e : TypeId} {A : Option Addr} {n c : Nat} (ht : C.P.underlying t = some (.slice e)) (hx : opv l x = some (.slice A n c)) (h : okk ops l g d C.n = true) (k : WT C Q ops rest ((d, .int .i64 n) :: l) m) :
    WT C Q ops (⟨some d, .call { callee := .builtin .len, args := #[x], argTypes := #[t] }, ty, pos, af, g⟩ :: rest) l m := WT.q (Qv.len_slice ht hx) rfl (okk_1 h) (okk_2 h) k
theorem t_lS {s : ByteArray} (ht : C.P.underlying t = some .string) (hx : opv l x = some (.string s)) (h : okk ops l g d C.n = true) (k : WT C Q ops rest ((d, .int .i64 s.size) :: l) m) :
    WT C Q ops (⟨some d, .call { callee := .builtin .len, args := #[x], argTypes := #[t] }, ty, pos, af, g⟩ :: rest) l m := WT.q (Qv.len_string ht hx) rfl (okk_1 h) (okk_2 h) k
theorem t_mi (hx : opv l x = some u) (hr : ∀ w, (Instr.makeInterface t u).run C.P w = .ok (.iface t u) w) (h : okk ops l g d C.n = true) (c : WT C Q ops rest ((d, .iface t u) :: l) m) : WT C Q ops (⟨some d, .makeInterface t x, ty, pos, af, g⟩ :: rest) l m := WT.q (Qv.makeInterface hx hr) rfl (okk_1 h) (okk_2 h) c
theorem t_fn {f : Fn} {xs : List Operand} {vs : List Value} (hx : opvs l xs = some vs) (h : okk ops l g d C.n = true) (c : WT C Q ops rest ((d, .func f #[] vs.toArray) :: l) m) : WT C Q ops (⟨some d, .makeFunc f #[] xs.toArray, ty, pos, af, g⟩ :: rest) l m := WT.q (Qv.makeFunc hx) rfl (okk_1 h) (okk_2 h) c
theorem t_fa (o' : Nat) {i bb o : Nat} (hx : opv l x = some (.pointer (some ⟨bb, o, none⟩))) (hr : ∀ w, (Instr.fieldAt t (.pointer (some ⟨bb, o, none⟩)) i).run C.P w = .ok (.pointer (some ⟨bb, o', none⟩)) w) (h : okk ops l g d C.n = true) (c : WT C Q ops rest ((d, .pointer (some ⟨bb, o', none⟩)) :: l) m) : WT C Q ops (⟨some d, .fieldAddr t x i, ty, pos, af, g⟩ :: rest) l m := WT.q (Qv.fieldAddr hx hr) rfl (okk_1 h) (okk_2 h) c
theorem t_fi {i : Nat} (hx : opv l x = some u) (hr : ∀ w, (Instr.field t u i).run C.P w = .ok v w) (h : okk ops l g d C.n = true) (c : WT C Q ops rest ((d, v) :: l) m) : WT C Q ops (⟨some d, .field t x i, ty, pos, af, g⟩ :: rest) l m := WT.q (Qv.field hx hr) rfl (okk_1 h) (okk_2 h) c
theorem t_f1 (o : Nat) {i : Nat} {cs : List Value} (hx : opv l x = some (.agg cs.toArray)) (hv : cs[o]? = some v) (hr : ∀ w, (Instr.field t (.agg cs.toArray) i).run C.P w = .ok v w) (h : okk ops l g d C.n = true) (c : WT C Q ops rest ((d, v) :: l) m) : WT C Q ops (⟨some d, .field t x i, ty, pos, af, g⟩ :: rest) l m := WT.q (Qv.field hx hr) rfl (okk_1 h) (okk_2 h) c
theorem t_ix {i : Value} (hx : opv l x = some u) (hy : opv l y = some i) (hr : ∀ w, (Instr.index t u i).run C.P w = .ok v w) (h : okk ops l g d C.n = true) (c : WT C Q ops rest ((d, v) :: l) m) : WT C Q ops (⟨some d, .index t x y, ty, pos, af, g⟩ :: rest) l m := WT.q (Qv.index hx hy hr) rfl (okk_1 h) (okk_2 h) c
theorem t_ia {e : TypeId} {A : Option Addr} {n c : Nat} {i : Int} (ht : C.P.underlying t = some (.slice e)) (he : (C.P.info? e).map (·.size) = some 1) (hx : opv l x = some (.slice A n c)) (hy : opv l y = some (.int k i)) (h : okk ops l g d C.n = true)
    (hA : 0 < n → A.isSome = true) (h0 : 0 ≤ i) (h1 : i < n) (cc : WT C Q ops rest ((d, .pointer (A.map (·.add i.toNat))) :: l) m) : WT C Q ops (⟨some d, .indexAddr t x y, ty, pos, af, g⟩ :: rest) l m := WT.q (Qv.indexAddr ht he hx hy hA h0 h1) rfl (okk_1 h) (okk_2 h) cc
theorem t_im {α : Type} {f : α → Value} {xs : List α} {e : TypeId} {A : Option Addr} {n c : Nat} {i : Int} (hr : Rd C.w0 (m ++ C.m0) A (xs.map f)) (ht : C.P.underlying t = some (.slice e)) (he : (C.P.info? e).map (·.size) = some 1) (hx : opv l x = some (.slice A n c)) (hy : opv l y = some (.int k i)) (h : okk ops l g d C.n = true)
    (hn : xs.length = n) (h0 : 0 ≤ i) (h1 : i < xs.length) (cc : WT C Q ops rest ((d, .pointer (A.map (·.add i.toNat))) :: l) m) : WT C Q ops (⟨some d, .indexAddr t x y, ty, pos, af, g⟩ :: rest) l m := WT.q (Qv.indexMap ht he hx hy hr hn h0 h1) rfl (okk_1 h) (okk_2 h) cc
theorem t_li (j : Nat) {xs : List Int} {kk : IntKind} {dd : TypeDesc} {A : Option Addr} (hr : Rd C.w0 (m ++ C.m0) A (xs.map (.int kk ·))) (ht : C.P.underlying t = some dd) (h1 : oneTy dd = true) (hx : opv l x = some (.pointer (A.map (·.add j)))) (h : okk ops l g d C.n = true) (hj : j < xs.length) (c : WT C Q ops rest ((d, .int kk (xs.getD j 0)) :: l) m) :
    WT C Q ops (⟨some d, .load t x, ty, pos, af, g⟩ :: rest) l m := WT.q (Qv.load_rd ht h1 hx hr (by simp [hj])) rfl (okk_1 h) (okk_2 h) c
theorem t_lt (j : Nat) {xs : List ByteArray} {dd : TypeDesc} {A : Option Addr} (hr : Rd C.w0 (m ++ C.m0) A (xs.map (.string ·))) (ht : C.P.underlying t = some dd) (h1 : oneTy dd = true) (hx : opv l x = some (.pointer (A.map (·.add j)))) (h : okk ops l g d C.n = true) (hj : j < xs.length) (c : WT C Q ops rest ((d, .string (xs.getD j ⟨#[]⟩)) :: l) m) :
    WT C Q ops (⟨some d, .load t x, ty, pos, af, g⟩ :: rest) l m := WT.q (Qv.load_rd ht h1 hx hr (by simp [hj])) rfl (okk_1 h) (okk_2 h) c
theorem t_cv {t u : TypeId} {v r : Value} (hx : opv l x = some v) (hr : ∀ w, (convert t u v).run C.P w = .ok r w) (h : okk ops l g d C.n = true) (c : WT C Q ops rest ((d, r) :: l) m) : WT C Q ops (⟨some d, .convert t u x, ty, pos, af, g⟩ :: rest) l m := WT.q (Qv.convert hx hr) rfl (okk_1 h) (okk_2 h) c
theorem t_bu {ps : List (Nat × Operand)} {vs : List (Nat × Value)} (hps : opps l ps = some vs) (hr : ∀ w, (Instr.build t vs.toArray).run C.P w = .ok v w) (h : okk ops l g d C.n = true) (c : WT C Q ops rest ((d, v) :: l) m) : WT C Q ops (⟨some d, .build t ps.toArray, ty, pos, af, g⟩ :: rest) l m := WT.q (Qv.build hps hr) rfl (okk_1 h) (okk_2 h) c
theorem t_lr {dd : TypeDesc} {A : Option Addr} {i : Nat} {xs : List Value} (ht : C.P.underlying t = some dd) (h1 : oneTy dd = true) (hx : opv l x = some (.pointer (A.map (·.add i)))) (h : okk ops l g d C.n = true) (hr : Rd C.w0 (m ++ C.m0) A xs) (hv : xs[i]? = some v) (c : WT C Q ops rest ((d, v) :: l) m) :
    WT C Q ops (⟨some d, .load t x, ty, pos, af, g⟩ :: rest) l m := WT.q (Qv.load_rd ht h1 hx hr hv) rfl (okk_1 h) (okk_2 h) c
theorem t_lb {dd : TypeDesc} {bb o : Nat} (i : Nat) {cs : List Value} {e : TypeId} (ht : C.P.underlying t = some dd) (h1 : oneTy dd = true) (hx : opv l x = some (.pointer (some ⟨bb, o, none⟩))) (h : okk ops l g d C.n = true) (hi : m[i]? = some (.blk bb cs e)) (hv : cs[o]? = some v) (c : WT C Q ops rest ((d, v) :: l) m) :
    WT C Q ops (⟨some d, .load t x, ty, pos, af, g⟩ :: rest) l m := WT.q (Qv.load_blk ht h1 hx hi hv) rfl (okk_1 h) (okk_2 h) c
theorem t_la {dd : TypeDesc} {bb : Nat} (i : Nat) {cs : List Value} {e : TypeId} (ht : C.P.underlying t = some dd) (h1 : oneTy dd = false) (hz : (C.P.info? t).map (·.size) = some cs.length) (hx : opv l x = some (.pointer (some ⟨bb, 0, none⟩))) (h : okk ops l g d C.n = true) (hi : m[i]? = some (.blk bb cs e)) (c : WT C Q ops rest ((d, .agg cs.toArray) :: l) m) :
    WT C Q ops (⟨some d, .load t x, ty, pos, af, g⟩ :: rest) l m := WT.q (Qv.load_all ht h1 hz hx hi) rfl (okk_1 h) (okk_2 h) c
theorem t_ta {t u : TypeId} {e : Bool} {v r : Value} (hx : opv l x = some v) (hr : ∀ w, (Instr.typeAssert v t u e).run C.P w = .ok r w) (h : okk ops l g d C.n = true) (c : WT C Q ops rest ((d, r) :: l) m) : WT C Q ops (⟨some d, .typeAssert x t u e, ty, pos, af, g⟩ :: rest) l m := WT.q (Qv.typeAssert hx hr) rfl (okk_1 h) (okk_2 h) c
theorem t_bi {op : BinOp} (hx : opv l x = some u) (hy : opv l y = some v) (hgd : ∀ x y, eqGuard op t x y u v = pure ()) {s : Value} (hr : ∀ w, Mem C.w0 (m ++ C.m0) w → (binOp op t u v).run C.P w = .ok s w) (h : okk ops l g d C.n = true) (c : WT C Q ops rest ((d, s) :: l) m) : WT C Q ops (⟨some d, .binOp op t x y t', ty, pos, af, g⟩ :: rest) l m := WT.q (Qv.bin hx hy hgd hr) rfl (okk_1 h) (okk_2 h) c
theorem t_iS {s : ByteArray} {i : Int} {v : UInt8} (ht : C.P.underlying t = some .string) (hx : opv l x = some (.string s)) (hy : opv l y = some (.int k i)) (h : okk ops l g d C.n = true) (h0 : 0 ≤ i) (hv : s.data[i.toNat]? = some v) (c : WT C Q ops rest ((d, .int .u8 v.toNat) :: l) m) : WT C Q ops (⟨some d, .index t x y, ty, pos, af, g⟩ :: rest) l m := WT.q (Qv.index_str ht hx hy h0 hv) rfl (okk_1 h) (okk_2 h) c
theorem t_bd {ps : List (Nat × Operand)} {vs : List Value} (hps : opds l 0 ps = some vs) (hr : ∀ w, (Instr.build t (numbered 0 vs).toArray).run C.P w = .ok (.agg vs.toArray) w) (h : okk ops l g d C.n = true) (c : WT C Q ops rest ((d, .agg vs.toArray) :: l) m) : WT C Q ops (⟨some d, .build t ps.toArray, ty, pos, af, g⟩ :: rest) l m := WT.q (Qv.build (opps_of ps 0 vs hps) hr) rfl (okk_1 h) (okk_2 h) c


/-! ### Calls of functions without a text, and by a method's name -/
theorem t_xv {f : FuncId} {fo : Operand} {xs : List Operand} {vs : List Value} {ts : Array TypeId} (hfo : opv l fo = some (.func (.func f) #[] #[])) (hxs : opvs l xs = some vs) (hr : ∀ w, (callFunc f vs.toArray).run C.P w = .ok (.value v) w) (h : okk ops l g d C.n = true) (c : WT C Q ops rest ((d, v) :: l) m) :
    WT C Q ops (⟨some d, .call { callee := .value fo, args := xs.toArray, argTypes := ts }, ty, pos, af, g⟩ :: rest) l m :=
  WT.q (fun ev hev w _ => by
    have h1 := opvs_map hev xs vs hxs
    simp [execOp, resolve, hev fo _ hfo, Deferred.ofValue, invoke, h1, hr w]) rfl (okk_1 h) (okk_2 h) c
theorem t_iv {name : String} {xs : List Operand} {vs : List Value} {ts : Array TypeId} (hx : opv l x = some u) (hxs : opvs l xs = some vs) (hr : ∀ w, (callMethod u name vs.toArray).run C.P w = .ok (.value v) w) (h : okk ops l g d C.n = true) (c : WT C Q ops rest ((d, v) :: l) m) :
    WT C Q ops (⟨some d, .call { callee := .invoke x name, args := xs.toArray, argTypes := ts }, ty, pos, af, g⟩ :: rest) l m :=
  WT.q (fun ev hev w _ => by
    have h1 := opvs_map hev xs vs hxs
    have h2 : Array.extract (#[u] ++ vs.toArray) 1 (#[u] ++ vs.toArray).size = vs.toArray := by simp
    simp only [execOp, resolve, hev x _ hx, List.map_toArray, h1, Sem.run_bind, Sem.run_pure, Result.andThen_ok, invoke]
    simp [hr w]) rfl (okk_1 h) (okk_2 h) c
theorem t_bk (s : Value) {op : BinOp} (hx : opv l x = some u) (hy : opv l y = some v) (hr : ∀ w, ((do eqGuard op t x y u v; binOp op t u v : Sem Value)).run C.P w = .ok s w) (h : okk ops l g d C.n = true) (c : WT C Q ops rest ((d, s) :: l) m) : WT C Q ops (⟨some d, .binOp op t x y t', ty, pos, af, g⟩ :: rest) l m :=
  WT.q (fun ev hev w _ => by
    have := hr w
    simp only [execOp, hev x _ hx, hev y _ hy]
    simp only [Sem.run_bind] at this ⊢
    rw [this]; rfl) rfl (okk_1 h) (okk_2 h) c
theorem t_bq {e e' : Bool} (ht : C.P.underlying t = some .bool) (hx : opv l x = some (.bool e)) (hy : opv l y = some (.bool e')) (h : okk ops l g d C.n = true) (c : WT C Q ops rest ((d, .bool (e == e')) :: l) m) : WT C Q ops (⟨some d, .binOp .eql t x y t', ty, pos, af, g⟩ :: rest) l m :=
  WT.q (Qv.bin hx hy (fun _ _ => eqGuard_at_bool ..) (fun w _ => run_eql_bool w t e e' ht)) rfl (okk_1 h) (okk_2 h) c

/-! ### Ranging over a string -/
theorem t_rg {s : ByteArray} (ht : C.P.underlying t = some .string) (hx : opv l x = some (.string s)) (h : okk ops l g d C.n = true) (c : ∀ n : Nat, WT C Q ops rest ((d, .pointer (some ⟨n, 0, none⟩)) :: l) (.obj n (.stringIter s 0) :: m)) : WT C Q ops (⟨some d, .range t x, ty, pos, af, g⟩ :: rest) l m := WT.ev (Ev.range ht hx) rfl (okk_1 h) (okk_2 h) (fun n _ => c n)
theorem t_nT (i : Nat) {s : ByteArray} {p bb c wd : Nat} {m' : List Res} (hp : p < s.size) (hd : Utf8.decode s p = (c, wd)) (hx : opv l x = some (.pointer (some ⟨bb, 0, none⟩))) (hi : m[i]? = some (.obj bb (.stringIter s p))) (hm : m.set i (.obj bb (.stringIter s (p + wd))) = m') (h : okk ops l g d C.n = true) (k : WT C Q ops rest ((d, .tuple #[.bool true, .int .i64 p, .int .i32 c]) :: l) m') : WT C Q ops (⟨some d, .next x true, ty, pos, af, g⟩ :: rest) l m := WT.ev (Ev.next hx hi hp hd hm) rfl (okk_1 h) (okk_2 h) (fun _ _ => k)
theorem t_nF (i : Nat) {s : ByteArray} {p bb : Nat} (hp : ¬ p < s.size) (hx : opv l x = some (.pointer (some ⟨bb, 0, none⟩))) (hi : m[i]? = some (.obj bb (.stringIter s p))) (h : okk ops l g d C.n = true) (k : WT C Q ops rest ((d, .tuple #[.bool false]) :: l) m) : WT C Q ops (⟨some d, .next x true, ty, pos, af, g⟩ :: rest) l m :=
  WT.q (fun ev hev w hw => by
    have ho := Mem.objRun hw hi
    simp [execOp, hev x _ hx, Instr.next, getObj, Sem.run, ho, hp, Result.andThen]) rfl (okk_1 h) (okk_2 h) k
theorem t_al {e : TypeId} {cs : List Value} {z : Value} (hz : ∀ w, (zeroValue e).run C.P w = .ok z w) (hc : z.cells.toList = cs) (h : okk ops l g d C.n = true) (c : ∀ n : Nat, WT C Q ops rest ((d, .pointer (some ⟨n, 0, none⟩)) :: l) (.blk n cs e :: m)) : WT C Q ops (⟨some d, .alloc e, ty, pos, af, g⟩ :: rest) l m := WT.ev (Ev.alloc hz hc) rfl (okk_1 h) (okk_2 h) (fun n _ => c n)
theorem t_bx {e : TypeId} {cs : List Value} (hx : opv l x = some v) (hc : v.cells.toList = cs) (h : okk ops l g d C.n = true) (c : ∀ n : Nat, WT C Q ops rest ((d, .pointer (some ⟨n, 0, none⟩)) :: l) (.blk n cs e :: m)) : WT C Q ops (⟨some d, .box e x, ty, pos, af, g⟩ :: rest) l m := WT.ev (Ev.box hx hc) rfl (okk_1 h) (okk_2 h) (fun n _ => c n)
theorem t_bs {e : TypeId} {n : Nat} {ps : List (Nat × Operand)} {cs : List Value} (ht : C.P.underlying t = some (.slice e)) (hps : opds l 0 ps = some cs) (hr : ∀ w, (Instr.buildSlice t n (numbered 0 cs).toArray).run C.P w = .ok (.slice (some ⟨w.heap.size, 0, none⟩) n n) (w.alloc (.cells cs.toArray e))) (h : okk ops l g d C.n = true) (c : ∀ a : Nat, WT C Q ops rest ((d, .slice (some ⟨a, 0, none⟩) n n) :: l) (.blk a cs e :: m)) : WT C Q ops (⟨some d, .buildSlice t n ps.toArray, ty, pos, af, g⟩ :: rest) l m := WT.ev (Ev.buildSlice (opps_of ps 0 cs hps) hr) rfl (okk_1 h) (okk_2 h) (fun n _ => c n)
theorem t_bo {e : TypeId} {n : Nat} {ps : List (Nat × Operand)} {cs : List Value} (ht : C.P.underlying t = some (.slice e)) (hps : opds l 0 ps = some cs) (hr : ∀ w, (Instr.buildSlice t n (numbered 0 cs).toArray).run C.P w = .ok (.slice (some ⟨w.heap.size, 0, none⟩) n n) (w.alloc (.cells cs.toArray e))) (hl : Nat.beq cs.length n = true) (hn : Nat.ble n 1000000 = true) (h : okk ops l g d C.n = true) (c : ∀ a : Nat, WT C Q ops rest ((d, .slice (some ⟨a, 0, none⟩) n n) :: l) (.own (some ⟨a, 0, none⟩) n n cs e 1 :: m)) : WT C Q ops (⟨some d, .buildSlice t n ps.toArray, ty, pos, af, g⟩ :: rest) l m :=
  WT.ev (Ev.buildOwn (opps_of ps 0 cs hps) hr (by have := Nat.eq_of_beq_eq_true hl; omega) (small_max hn)) rfl (okk_1 h) (okk_2 h) (fun n _ => c n)
theorem t_st {bb o : Nat} (i : Nat) {cs : List Value} {e : TypeId} {m' : List Res} (hz : (C.P.info? t).map (·.size) = some 1) (hx : opv l x = some (.pointer (some ⟨bb, o, none⟩))) (hy : opv l y = some v) (h1 : v.oneCell' = true)
    (hi : m[i]? = some (.blk bb cs e)) (ho : Nat.blt o cs.length = true) (hm : m.set i (.blk bb (cs.set o v) e) = m') (hg : wants ops l g = some true) (c : WT C Q ops rest l m') : WT C Q ops (⟨none, .store t x y, ty, pos, af, g⟩ :: rest) l m := WT.st (Sv.store_blk hz hx hy h1 hi (by simpa using ho) hm) rfl hg c
theorem t_sa {bb : Nat} (i : Nat) {cs us : List Value} {e : TypeId} {m' : List Res} (hz : (C.P.info? t).map (·.size) = some us.length) (hx : opv l x = some (.pointer (some ⟨bb, 0, none⟩))) (hy : opv l y = some (.agg us.toArray)) (h1 : us.all (·.oneCell') = true)
    (hi : m[i]? = some (.blk bb cs e)) (hl : cs.length = us.length) (hm : m.set i (.blk bb us e) = m') (hg : wants ops l g = some true) (c : WT C Q ops rest l m') : WT C Q ops (⟨none, .store t x y, ty, pos, af, g⟩ :: rest) l m := WT.st (Sv.store_all hz hx hy h1 hi hl hm) rfl hg c

/-! ### Slices of the call's own: a store, an append -/
theorem t_so (i j : Nat) {A : Option Addr} {n c : Nat} {xs : List Value} {e : TypeId} {m' : List Res} (hz : (C.P.info? t).map (·.size) = some 1) (hx : opv l x = some (.pointer (A.map (·.add j)))) (hy : opv l y = some v) (h1 : v.oneCell' = true)
    (hi : m[i]? = some (.own A c n xs e 1)) (hj : j < n) (hm : m.set i (.own A c n (xs.set j v) e 1) = m') (hg : wants ops l g = some true) (k : WT C Q ops rest l m') : WT C Q ops (⟨none, .store t x y, ty, pos, af, g⟩ :: rest) l m := WT.st (Sv.store_own hz hx hy h1 hi hj hm) rfl hg k
theorem t_am (i : Nat) {α : Type} {f : α → Value} {xs ys : List α} {z : Value} {by_ : Nat} {s' : Operand} {e : TypeId} {A B : Option Addr} {c c' k : Nat} (ht : C.P.underlying t = some (.slice e)) (hinf : (C.P.info? e).map (fun i => (i.zero, i.size, i.bytes)) = some (some z, 1, by_)) (hzc : z.cells.size = 1)
    (hs : opv l s' = some (.slice A xs.length c)) (hx : opv l x = some (.slice B k c')) (hm : m[i]? = some (.own A c xs.length (xs.map f) e 1)) (hr : Rd C.w0 (m ++ C.m0) B (ys.map f)) (hk : ys.length = k) (h1 : ∀ a, (f a).oneCell' = true) (hlen : (xs.length + k) * (by_ + 1) ≤ 140737488355328) (h : okk ops l g d C.n = true)
    (cc : ∀ p : Option Addr × Nat, (p = (none, 0) ↔ (xs.length = 0 ∧ k = 0 ∧ A = none)) → WT C Q ops rest ((d, .slice p.1 (xs ++ ys).length p.2) :: l) (m.set i (.own p.1 p.2 (xs ++ ys).length ((xs ++ ys).map f) e 1))) :
    WT C Q ops (⟨some d, .call { callee := .builtin .append, args := #[s', x], argTypes := #[t, t] }, ty, pos, af, g⟩ :: rest) l m := by
  cases hq : C.P.info? e with
  | none => simp [hq] at hinf
  | some inf =>
    have h3 : inf.zero = some z ∧ inf.size = 1 ∧ inf.bytes = by_ := by simpa [hq] using hinf
    have hb1 : (xs.length + k) * by_ ≤ (xs.length + k) * (by_ + 1) := Nat.mul_le_mul_left _ (by omega)
    have hb2 : (xs.length + k) * 1 ≤ (xs.length + k) * (by_ + 1) := Nat.mul_le_mul_left _ (by omega)
    refine WT.ev (Ev.append (ys := ys.map f) ht hq h3.1 h3.2.1 h3.2.2 hzc hs hx hm hr (by simpa using hk) (by simpa using fun a _ => h1 a) (by unfold maxLen; omega) (by omega)) rfl (okk_1 h) (okk_2 h) (fun p hp => ?_)
    have := cc p hp
    rw [List.length_append, List.map_append, hk] at this
    exact this
theorem t_mx (hx : opv l x = some (.int k p)) (hy : opv l y = some (.int k' q)) (h : okk ops l g d C.n = true) (c : WT C Q ops rest ((d, .int k (max p q)) :: l) m) :
    WT C Q ops (⟨some d, .call { callee := .builtin .max, args := #[x, y], argTypes := #[t, t'] }, ty, pos, af, g⟩ :: rest) l m :=
  WT.q (fun ev hev w _ => by simp [execOp, resolve, invoke, builtin, hev x _ hx, hev y _ hy, Go.Lib.run_max_ints]) rfl (okk_1 h) (okk_2 h) c
theorem t_mn (hx : opv l x = some (.int k p)) (hy : opv l y = some (.int k' q)) (h : okk ops l g d C.n = true) (c : WT C Q ops rest ((d, .int k (min p q)) :: l) m) :
    WT C Q ops (⟨some d, .call { callee := .builtin .min, args := #[x, y], argTypes := #[t, t'] }, ty, pos, af, g⟩ :: rest) l m :=
  WT.q (fun ev hev w _ => by simp [execOp, resolve, invoke, builtin, hev x _ hx, hev y _ hy, Go.Lib.run_min_ints]) rfl (okk_1 h) (okk_2 h) c
theorem t_cp {e : TypeId} {A : Option Addr} {n c : Nat} (ht : C.P.underlying t = some (.slice e)) (hx : opv l x = some (.slice A n c)) (h : okk ops l g d C.n = true) (cc : WT C Q ops rest ((d, .int .i64 c) :: l) m) :
    WT C Q ops (⟨some d, .call { callee := .builtin .cap, args := #[x], argTypes := #[t] }, ty, pos, af, g⟩ :: rest) l m := WT.q (Qv.cap ht hx) rfl (okk_1 h) (okk_2 h) cc
theorem t_sS {s : ByteArray} {i j : Int} (ht : C.P.underlying t = some .string) (hx : opv l x = some (.string s)) (hy : opv l y = some (.int k i)) (hz : opv l z = some (.int k' j)) (h0 : 0 ≤ i) (h1 : i ≤ j) (h2 : j ≤ s.size) (h : okk ops l g d C.n = true) (c : WT C Q ops rest ((d, .string (s.extract i.toNat j.toNat)) :: l) m) :
    WT C Q ops (⟨some d, .slice t x (some y) (some z) none, ty, pos, af, g⟩ :: rest) l m := WT.q (Qv.sliceStr ht hx hy hz h0 h1 h2) rfl (okk_1 h) (okk_2 h) c
theorem t_sT {s : ByteArray} {j : Int} (ht : C.P.underlying t = some .string) (hx : opv l x = some (.string s)) (hz : opv l z = some (.int k' j)) (h1 : 0 ≤ j) (h2 : j ≤ s.size) (h : okk ops l g d C.n = true) (c : WT C Q ops rest ((d, .string (s.extract 0 j.toNat)) :: l) m) :
    WT C Q ops (⟨some d, .slice t x none (some z) none, ty, pos, af, g⟩ :: rest) l m :=
  WT.q (fun ev hev w _ => by simp [execOp, hev x _ hx, hev z _ hz, Instr.sliceAt, run_underlying ht, run_slice_to w t s k' j ht h1 h2]) rfl (okk_1 h) (okk_2 h) c
theorem t_sF {s : ByteArray} {i : Int} (ht : C.P.underlying t = some .string) (hx : opv l x = some (.string s)) (hy : opv l y = some (.int k i)) (h0 : 0 ≤ i) (h2 : i ≤ s.size) (h : okk ops l g d C.n = true) (c : WT C Q ops rest ((d, .string (s.extract i.toNat s.size)) :: l) m) :
    WT C Q ops (⟨some d, .slice t x (some y) none none, ty, pos, af, g⟩ :: rest) l m :=
  WT.q (fun ev hev w _ => by simp [execOp, hev x _ hx, hev y _ hy, Instr.sliceAt, run_underlying ht, run_slice_from w t s k i ht h0 h2]) rfl (okk_1 h) (okk_2 h) c
theorem t_cm {r : Value} (hx : opv l x = some v) (hr : ∀ w, Mem C.w0 (m ++ C.m0) w → (convert t t2 v).run C.P w = .ok r w) (h : okk ops l g d C.n = true) (c : WT C Q ops rest ((d, r) :: l) m) : WT C Q ops (⟨some d, .convert t t2 x, ty, pos, af, g⟩ :: rest) l m :=
  WT.q (fun ev hev w hw => by simp [execOp, hev x _ hx, hr w hw]) rfl (okk_1 h) (okk_2 h) c
theorem t_sf {A : Option Addr} {n c : Nat} {i : Int} (ht : C.P.underlying t = some (.slice (C.P.elem t))) (hz : ∀ w, (sizeOf (C.P.elem t)).run C.P w = .ok 1 w) (hx : opv l x = some (.slice A n c)) (hy : opv l y = some (.int k i)) (h0 : 0 ≤ i) (h1 : i ≤ n) (h : okk ops l g d C.n = true) (cc : WT C Q ops rest ((d, sliced A i.toNat n c 1) :: l) m) :
    WT C Q ops (⟨some d, .slice t x (some y) none none, ty, pos, af, g⟩ :: rest) l m := WT.q (Qv.slFrom ht hz hx hy h0 h1) rfl (okk_1 h) (okk_2 h) cc
theorem t_sto {A : Option Addr} {n c : Nat} {i : Int} (ht : C.P.underlying t = some (.slice (C.P.elem t))) (hz : ∀ w, (sizeOf (C.P.elem t)).run C.P w = .ok 1 w) (hx : opv l x = some (.slice A n c)) (hy : opv l y = some (.int k i)) (h0 : 0 ≤ i) (h1 : i ≤ c) (h : okk ops l g d C.n = true) (cc : WT C Q ops rest ((d, sliced A 0 i.toNat c 1) :: l) m) :
    WT C Q ops (⟨some d, .slice t x none (some y) none, ty, pos, af, g⟩ :: rest) l m := WT.q (Qv.slTo ht hz hx hy h0 h1) rfl (okk_1 h) (okk_2 h) cc
theorem t_zr {e : TypeId} {zv : Value} {kn : IntKind} {gg n c kk : Nat} {q : Int} (olds : List Value) (ht : C.P.underlying t = some (.slice e)) (htn : C.P.underlying t' = some (.int kn)) (hinf : (C.P.info? e).map (fun i => (i.zero, i.size, i.bytes)) = some (some zv, 1, 4)) (hzc : zv.cells.size = 1)
    (hx : opv l x = some (.slice (some ⟨gg, 0, none⟩) n c)) (hy : opv l y = some (.int k q)) (hq : q = (kk : Int)) (hold : ∀ w, Mem C.w0 (m ++ C.m0) w → ∀ j v, olds[j]? = some v → w.cell? ⟨gg, j, none⟩ = some v) (hol : olds.length = n) (h0 : 0 < kk) (hg : c < n + kk) (hb : (n + kk) * 4 ≤ 140737488355328) (h : okk ops l g d C.n = true)
    (cc : ∀ p : Nat × Nat, WT C Q ops rest ((d, .slice (some ⟨p.1, 0, none⟩) (n + kk) p.2) :: l) (.own (some ⟨p.1, 0, none⟩) p.2 (n + kk) (olds ++ (Builtin.zeroCells zv.cells kk).toList) e 1 :: m)) :
    WT C Q ops (⟨some d, .call { callee := .builtin .append, args := #[x, y], argTypes := #[t, t'] }, ty, pos, af, g⟩ :: rest) l m := by
  subst hq
  cases hqq : C.P.info? e with
  | none => simp [hqq] at hinf
  | some inf =>
    have h3 : inf.zero = some zv ∧ inf.size = 1 ∧ inf.bytes = 4 := by simpa [hqq] using hinf
    exact WT.ev (Ev.zeros ht htn hqq h3.1 h3.2.1 h3.2.2 hzc hx hy hold hol h0 hg hb) rfl (okk_1 h) (okk_2 h) (fun p _ => cc p)
theorem t_cpy (i : Nat) {e e' : TypeId} {gg o dl dc : Nat} {a : Addr} {sl sc : Nat} {cs : List Value} (vs : List Value) {m' : List Res} (hu : C.P.underlying t = some (.slice e)) (hs : (C.P.info? e).map (·.size) = some 1) (hx : opv l x = some (.slice (some ⟨gg, o, none⟩) dl dc)) (hy : opv l y = some (.slice (some a) sl sc)) (hi : m[i]? = some (.blk gg cs e'))
    (hsrc : ∀ w, Mem C.w0 (m ++ C.m0) w → ∀ j v, vs[j]? = some v → w.cell? (a.add j) = some v) (hn : vs.length = Nat.min sl dl) (hfit : o + vs.length ≤ cs.length) (h1 : ∀ v ∈ vs, v.oneCell' = true) (hm : m.set i (.blk gg (cs.take o ++ vs ++ cs.drop (o + vs.length)) e') = m') (h : okk ops l g d C.n = true) (c : WT C Q ops rest ((d, .int .i64 vs.length) :: l) m') :
    WT C Q ops (⟨some d, .call { callee := .builtin .copy, args := #[x, y], argTypes := #[t, t'] }, ty, pos, af, g⟩ :: rest) l m := WT.ev (Ev.copy i hu hs hx hy hi hsrc hn hfit h1 hm) rfl (okk_1 h) (okk_2 h) (fun _ _ => c)
theorem t_st0 (j : Nat) {gg n c : Nat} {q : Int} (ht : C.P.underlying t = some (.slice (C.P.elem t))) (hz : ∀ w, (sizeOf (C.P.elem t)).run C.P w = .ok 1 w) (hx : opv l x = some (.slice (some ⟨gg, 0, none⟩) n c)) (hy : opv l y = some (.int k q)) (hq : q = (j : Int)) (h1 : j ≤ c) (h : okk ops l g d C.n = true) (cc : WT C Q ops rest ((d, .slice (some ⟨gg, 0, none⟩) j c) :: l) m) :
    WT C Q ops (⟨some d, .slice t x none (some y) none, ty, pos, af, g⟩ :: rest) l m := WT.q (Qv.st0 j ht hz hx hy hq h1) rfl (okk_1 h) (okk_2 h) cc
theorem t_sfj (j : Nat) {gg n c : Nat} {q : Int} (ht : C.P.underlying t = some (.slice (C.P.elem t))) (hz : ∀ w, (sizeOf (C.P.elem t)).run C.P w = .ok 1 w) (hx : opv l x = some (.slice (some ⟨gg, 0, none⟩) n c)) (hy : opv l y = some (.int k q)) (hq : q = (j : Int)) (h1 : j ≤ n) (h2 : j ≠ c) (h : okk ops l g d C.n = true) (cc : WT C Q ops rest ((d, .slice (some ⟨gg, j, none⟩) (n - j) (c - j)) :: l) m) :
    WT C Q ops (⟨some d, .slice t x (some y) none none, ty, pos, af, g⟩ :: rest) l m := WT.q (Qv.sfj j ht hz hx hy hq h1 h2) rfl (okk_1 h) (okk_2 h) cc

theorem s_nil (h : WT C Q ops tail l m) : WS C Q ops tail [] l m := WS.nil h
theorem t_nl (h : WE C Q .normal l m) : WT C Q ops [] l m := WT.nil h
theorem t_nx {c : Code} {K : Act → World → Prop} (hK : ∀ l m, WC C Q c l m → CK C K l m) (h : WC C Q c l m) : WT C (Exit.then K Q) ops [] l m := WT.nil (WE.then_n hK h)
end
end Go.Gp

/- slices.Index, Contains, Reverse over strings, rules.turned: the walks. -/
set_option linter.unusedVariables false
set_option linter.unusedSimpArgs false
namespace Go.Gp
open Go.RowKit
section
variable {C : Cx} {Q : Po} {l : List (Nat × Value)} {m : List Res} {ops : Array Oper} {rest : List Oper}
theorem WX.open0 (i : Nat) {b c n : Nat} {xs : List Value} {e : TypeId} (hi : m[i]? = some (.own (some ⟨b, 0, none⟩) c n xs e 1)) (h : ∀ (cur : List Value), cur.length = c → cur.take n = xs → n ≤ c → c ≤ maxLen → WX false C Q ops rest l (m.set i (.blk b cur e))) : WX false C Q ops rest l m := by
  have hlt : i < m.length := (List.getElem?_eq_some_iff.1 hi).1
  have hu : ∀ a w, C.St l m a w → ∃ cur : List Value, cur.length = c ∧ cur.take n = xs ∧ n ≤ c ∧ c ≤ maxLen ∧ C.St l (m.set i (.blk b cur e)) a w := fun a w hs => by
    have hi' : (m ++ C.m0)[i]? = some (.own (some ⟨b, 0, none⟩) c n xs e 1) := by rw [List.getElem?_append_left hlt]; exact hi
    have hown : w.ownsRow C.w0.heap.size e 1 (.slice (some ⟨b, 0, none⟩) n c) n xs := hs.2.all i _ hi'
    rcases hown.2 with ⟨h1, h0⟩ | ⟨gg, cap, cur, hv, hb, hg, hnc, hcm, hcs, htake⟩
    · cases h1
    · injection hv with h1 h2 h3
      subst h3
      obtain rfl : b = gg := by injection h1 with h1; injection h1
      refine ⟨cur.toList, by simpa using hcs, by simpa using htake, hnc, hcm, hs.1, ?_⟩
      rw [← List.set_append_left _ _ hlt]
      exact hs.2.upd hi' ⟨rfl, rfl, rfl, Nat.le_refl _, fun _ _ _ => rfl⟩ ⟨hb, by simpa using hg⟩ (fun k hk => .inl hk)
  unfold WX WL at h ⊢
  intro a w hs
  obtain ⟨cur, h2, h3, h4, h5, hs'⟩ := hu a w hs
  exact h cur h2 h3 h4 h5 a w hs'
end
end Go.Gp
namespace Go.Proofs.YtkggplnigjlegaaGreatDoor
open Go.RowKit Go.Gp

/-- Where a list holds a text first. -/
def idxB (v : ByteArray) : List ByteArray → Int
  | [] => -1
  | x :: r => if v = x then 0 else if idxB v r = -1 then -1 else idxB v r + 1
theorem idxB_no (v : ByteArray) : ∀ l : List ByteArray, v ∉ l → idxB v l = -1
  | [], _ => rfl
  | x :: r, h => by
    rw [idxB, if_neg (fun e => h (by simp [e])), if_pos (idxB_no v r (fun e => h (by simp [e])))]
theorem idxB_at (v : ByteArray) : ∀ (l : List ByteArray) (i : Nat), (∀ j, j < i → l[j]? ≠ some v) → l[i]? = some v → idxB v l = i
  | [], i, _, h => by simp at h
  | x :: r, 0, _, h => by
    obtain rfl : x = v := by simpa using h
    rw [idxB, if_pos rfl]; rfl
  | x :: r, i + 1, hh, h => by
    have h0 := hh 0 (by omega)
    have h1 := idxB_at v r i (fun j hj => by have := hh (j + 1) (by omega); simpa using this) (by simpa using h)
    rw [idxB, if_neg (fun e => h0 (by simp [e])), if_neg (by omega), h1]
    push_cast
    rfl
theorem idxB_bd (v : ByteArray) (l : List ByteArray) : -1 ≤ idxB v l := by
  induction l with
  | nil => simp [idxB]
  | cons y r ih => rw [idxB]; split; omega; split <;> omega
theorem idxB_mem (v : ByteArray) (l : List ByteArray) : 0 ≤ idxB v l ↔ v ∈ l := by
  induction l with
  | nil => simp [idxB]
  | cons x r ih =>
    have hb := idxB_bd v r
    rw [idxB]
    by_cases h : v = x
    · simp [h]
    · rw [if_neg h, List.mem_cons]
      split
      · rename_i he
        rw [he] at ih
        exact ⟨fun h => absurd h (by omega), fun h' => by rcases h' with h' | h'; exact absurd h' h; exact absurd (ih.2 h') (by omega)⟩
      · exact ⟨fun h' => .inr (ih.1 (by omega)), fun h' => by rcases h' with h' | h'; exact absurd h' h; have := ih.2 h'; omega⟩
set_option maxRecDepth 100000 in
theorem indexS_spec (A : Option Addr) (c : Nat) (l : List ByteArray) (v : ByteArray) (hn : l.length ≤ 1000000) (w0 : World) (m0 : List Res) (hA : Rd w0 m0 A (strsV l)) (hA2 : 0 < l.length → A.isSome = true) :
    PureC Tryz.prog 26 [.slice A l.length c, .string v] w0 m0 (.int .i64 (idxB v l)) := by
  refine Ct.of Tryz.func26 rfl (by kernel_rfl) rfl ?_
  (refine c_sq fun k10 h10 => c_rg <| r_as rfl rfl <| r_nx h10 <| c_sq fun k12 h12 => c_sq fun k14 h14 => c_rg <| r_mv rfl rfl <| r_ls Tryz.underlying23 rfl rfl <| r_mv rfl rfl <| r_nx h14 <| c_bl ?_; rotate_left)
  refine WC.loop (α := Nat) (fun i => [(0, .slice A l.length c), (1, .string v), (7, .int .i64 l.length), (8, .int .i64 (i : Nat))]) (fun _ => []) (fun i => i ≤ l.length ∧ ∀ j, j < i → l[j]? ≠ some v) (fun i => l.length - i) 0 ⟨by omega, fun j hj => by omega⟩ ⟨rfl, rfl, rfl, rfl, trivial⟩ Mem.keep ?_
  rintro i ⟨hi, hall⟩
  by_cases hlt : i < l.length
  · (refine c_sq fun k20 h20 => c_rg <| r_ltT rfl rfl rfl (by omega) <| r_nx h20 <| c_sq fun k22 h22 => c_cT rfl <| c_sk <| WE.then_n h22 <| c_sq fun k24 h24 => c_bl <| c_sq fun k26 h26 => c_rg <| r_mv rfl rfl <| r_as rfl rfl <| r_nx h26 <| c_sq fun k28 h28 => c_rg <| r_mv rfl rfl <| r_mv rfl rfl <| r_mv rfl rfl <| r_im (hA.app _) Tryz.underlying23 (by kernel_rfl) rfl rfl rfl rfl (by omega) (by omega) <| r_lt (i) (hA.app _) Tryz.underlying9 rfl rfl rfl (by omega) ?_; rotate_left)
    refine r_seq rfl rfl (fun _ => by kernel_rfl) rfl ?_
    have hgi : l[i]? = some (l.getD i ⟨#[]⟩) := by rw [List.getD_eq_getElem?_getD, List.getElem?_eq_getElem hlt]; rfl
    by_cases he : v = l.getD i ⟨#[]⟩
    · rw [decide_eq_true he]
      (refine r_nx h28 <| c_cT rfl <| c_sq fun k32 h32 => c_rg <| r_mv rfl rfl <| r_as rfl rfl <| r_nx h32 <| c_rt <| WE.blk_r <| WE.then_r <| WE.then_r <| WE.blk_r <| WE.then_r ?_; rotate_left)
      rw [← he] at hgi
      exact WE.ret1 () rfl rfl (by rw [idxB_at v l i hall hgi]; rfl) trivial Mem.drop
    · rw [decide_eq_false he]
      (refine r_nx h28 <| c_cF rfl <| c_sk <| WE.blk_n <| WE.then_n h24 <| c_rg <| r_ad rfl rfl rfl (wadd64 (by omega)) <| r_mv rfl rfl <| r_nl ?_; rotate_left)
      exact WE.back (i + 1) ⟨by omega, fun j hj => by
        rcases (by omega : j < i ∨ j = i) with h | rfl
        · exact hall j h
        · rw [hgi]; intro h; exact he (by simpa using h.symm)⟩ (by omega) ⟨rfl, rfl, rfl, rfl, trivial⟩ Mem.keep
  · (refine c_sq fun k20 h20 => c_rg <| r_ltF rfl rfl rfl (by omega) <| r_nx h20 <| c_sq fun k22 h22 => c_cF rfl <| c_ex <| WE.then_x <| WE.then_x <| WE.blk_x <| WE.then_n h12 <| c_sq fun k24 h24 => c_rg <| r_as rfl rfl <| r_nx h24 <| c_rt ?_; rotate_left)
    have hno : v ∉ l := fun hm => by
      obtain ⟨j, hj⟩ := List.mem_iff_getElem?.1 hm
      exact hall j (by have := (List.getElem?_eq_some_iff.1 hj).1; omega) hj
    exact WE.ret1 () rfl rfl (by rw [idxB_no v l hno]; rfl) trivial Mem.drop
end Go.Proofs.YtkggplnigjlegaaGreatDoor
namespace Go.Proofs
open Go.Shelf Go.Lib Go.Sort Go.RowKit
def Tryz.lays17_ren : Go.Shelf.Ren := ⟨fun | 17 => 27 | n => n, fun | 24 => 23 | 9 => 9 | 3 => 3 | 4 => 4 | 0 => 0 | n => n, fun | n => n⟩
set_option maxRecDepth 100000 in
theorem Tryz.lays17 : Go.Proofs.Lays2.n17 Tryz.prog Tryz.lays17_ren := {
  mixed := by kernel_rfl
  f17 := Tryz.func27.trans (congrArg some (by kernel_rfl))
  t0 := Tryz.underlying0
  a0 := Tryz.isAgg0
  z0 := Tryz.sizeOf0
  v0 := Tryz.zeroValue0
  t3 := Tryz.underlying3
  a3 := Tryz.isAgg3
  z3 := Tryz.sizeOf3
  v3 := Tryz.zeroValue3
  t4 := Tryz.underlying4
  a4 := Tryz.isAgg4
  z4 := Tryz.sizeOf4
  v4 := Tryz.zeroValue4
  t9 := Tryz.underlying9
  a9 := Tryz.isAgg9
  z9 := Tryz.sizeOf9
  v9 := Tryz.zeroValue9
  t24 := Tryz.underlying23
  a24 := Tryz.isAgg23
  z24 := Tryz.sizeOf23
  v24 := Tryz.zeroValue23 }
end Go.Proofs
namespace Go.Proofs.YtkggplnigjlegaaGreatDoor
open Go.RowKit Go.Gp Go.Sort
theorem enc_list (s : ByteArray) : encStr s.data.toList = .string s := by
  show Value.string ⟨s.data.toList.toArray⟩ = _
  simp
theorem put_all (l : List ByteArray) (cs : List ByteArray) (h : cs.length = l.length) : putCells encStr 0 (l.map (·.data.toList)).toArray (strsV cs).toArray = (strsV l).toArray := by
  unfold putCells
  apply Array.ext
  · simp [h]
  · intro k h1 h2
    have hk : k < l.length := by simpa using h2
    simp only [Array.getElem_mapIdx]
    rw [if_pos ⟨by omega, by simp; omega⟩]
    rw [Nat.sub_zero, getElem!_pos _ k (by simpa using hk)]
    simp only [List.getElem_toArray, List.getElem_map, strsV]
theorem reverseS_spec (b : Nat) (l : List ByteArray) (hn : l.length ≤ 1000000) (w0 : World) (m0 : List Res) :
    Ct (α := Unit) Tryz.prog 27 [.slice (some ⟨b, 0, none⟩) l.length l.length] w0 [.blk b (strsV l) 9] m0 (fun _ => True) (fun _ => .tuple #[]) (fun _ => [.blk b (strsV l.reverse) 9]) := by
  unfold Ct
  refine ⟨⟨_, Tryz.func27, by kernel_rfl, by kernel_rfl⟩, fun w hw => ?_⟩
  have hrow := (hw.all 0 _ rfl).2
  have hb := (hw.all 0 _ rfl).1
  have hH : Holds encStr w b 0 (l.map (·.data.toList)).toArray := by
    intro j hj
    have hj' : j < l.length := by simpa using hj
    rw [Nat.zero_add]
    refine ⟨?_, frozen_of_row w b j _ _ hrow⟩
    rw [getElem!_pos _ j hj, cell_of_row w b j _ _ (0, 0) hrow]
    simp only [List.getElem_toArray, List.getElem_map]
    rw [enc_list]
    simp [strsV, List.getElem?_eq_getElem hj']
  have h := Any.slices_Reverse_string Tryz.lays17 b 0 l.length (l.map (·.data.toList)) w hH (by simp; omega)
  rw [List.length_map] at h
  refine Calls.mono h ?_
  rintro e w' ⟨rfl, n, rfl⟩
  refine ⟨(), trivial, rfl, ?_⟩
  have hg := grownBy_sorted (w := w) (g := b) (n := n) (os := #[]) (l.map (·.data.toList)).reverse.toArray
  have hh := heap_sorted (n := n) (os := #[]) (l.map (·.data.toList)).reverse.toArray hrow
  rw [grow_empty] at hg hh
  rw [← List.map_reverse, put_all l.reverse l (by simp)] at hh
  rw [← List.map_reverse] at hg ⊢
  exact hw.upd (i := 0) rfl hg ⟨hb, hh⟩ (fun k hk => .inl hk)
end Go.Proofs.YtkggplnigjlegaaGreatDoor

/- slices.Contains, rules.turned, rules.Labels, rules.Text: the walks. -/
set_option linter.unusedVariables false
set_option linter.unusedSimpArgs false
namespace Go.Proofs.YtkggplnigjlegaaGreatDoor
open Go.RowKit Go.Gp

set_option maxRecDepth 100000 in
theorem containsS_spec (A : Option Addr) (c : Nat) (l : List ByteArray) (v : ByteArray) (hn : l.length ≤ 1000000) (w0 : World) (m0 : List Res) (hA : Rd w0 m0 A (strsV l)) (hA2 : 0 < l.length → A.isSome = true) :
    PureC Tryz.prog 13 [.slice A l.length c, .string v] w0 m0 (.bool (decide (0 ≤ idxB v l))) := by
  have hb := idxB_bd v l
  by_cases h : 0 ≤ idxB v l
  · rw [decide_eq_true h]
    refine Ct.of Tryz.func13 rfl (by kernel_rfl) rfl ?_
    (refine c_sq fun k12 h12 => c_rg <| r_as rfl rfl <| r_nx h12 <| c_sq fun k14 h14 => c_rg <| r_mv rfl rfl <| r_mv rfl rfl ?_; rotate_left)
    refine WX.pure rfl rfl (indexS_spec A c l v hn _ _ hA hA2) rfl rfl ?_
    (refine r_geT rfl rfl rfl (by omega) <| r_as rfl rfl <| r_nx h14 <| c_rt ?_; rotate_left)
    exact WE.ret1 () rfl rfl rfl trivial Mem.drop
  · rw [decide_eq_false h]
    refine Ct.of Tryz.func13 rfl (by kernel_rfl) rfl ?_
    (refine c_sq fun k12 h12 => c_rg <| r_as rfl rfl <| r_nx h12 <| c_sq fun k14 h14 => c_rg <| r_mv rfl rfl <| r_mv rfl rfl ?_; rotate_left)
    refine WX.pure rfl rfl (indexS_spec A c l v hn _ _ hA hA2) rfl rfl ?_
    (refine r_geF rfl rfl rfl (by omega) <| r_as rfl rfl <| r_nx h14 <| c_rt ?_; rotate_left)
    exact WE.ret1 () rfl rfl rfl trivial Mem.drop
set_option maxRecDepth 100000 in
theorem turned_some (a : Addr) (c : Nat) (l : List ByteArray) (hn : l.length ≤ 900000) (w0 : World) (m0 : List Res) (hA : Rd w0 m0 (some a) (strsV l)) :
    Ct (α := Nat) Tryz.prog 14 [.slice (some a) l.length c] w0 [] m0 (fun _ => True) (fun b => .slice (some ⟨b, 0, none⟩) l.length l.length) (fun b => [.blk b (strsV l.reverse) 9]) := by
  have hA' := hA
  unfold Rd at hA'
  refine Ct.of Tryz.func14 rfl (by kernel_rfl) rfl ?_
  (refine c_sq fun k9 h9 => c_rg <| r_as rfl rfl <| r_nx h9 <| c_sq fun k11 h11 => c_rg <| r_mv rfl rfl <| r_ls Tryz.underlying23 rfl rfl ?_; rotate_left)
  refine r_mk (by_ := 16) (z := .string ⟨#[]⟩) Tryz.underlying23 (by kernel_rfl) rfl rfl (by omega) rfl (fun b xs hxs => ?_)
  refine WX.open0 0 rfl (fun cur h1 h2 h3 h4 => ?_)
  (refine r_as rfl rfl <| r_nx h11 <| c_sq fun k21 h21 => c_rg <| r_mv rfl rfl <| r_mv rfl rfl ?_; rotate_left)
  have hfull : cur.take 0 ++ strsV l ++ cur.drop (0 + (strsV l).length) = strsV l := by
    rw [List.take_zero, List.nil_append, List.drop_eq_nil_of_le (by simp; omega), List.append_nil]
  refine r_cpy (m' := [.blk b (strsV l) 9]) 0 (strsV l) Tryz.underlying23 (by kernel_rfl) rfl rfl rfl (fun w hw j v hv => by
    obtain ⟨a', h1, h2⟩ := hA' w (Mem.appR hw) j v hv
    obtain rfl : a = a' := by injection h1
    exact h2) (by simp) (by simp; omega) (fun v hv => by obtain ⟨_, _, rfl⟩ := List.mem_map.1 hv; rfl) (by rw [hfull]; rfl) rfl ?_
  (refine r_nx h21 <| c_sq fun k24 h24 => c_rg <| r_mv rfl rfl ?_; rotate_left)
  refine WX.call (m1 := [.blk b (strsV l) 9]) (m2 := []) rfl rfl rfl (reverseS_spec b l (by omega) _ _) rfl rfl (fun _ _ => ?_)
  (refine r_nx h24 <| c_sq fun k28 h28 => c_rg <| r_mv rfl rfl <| r_as rfl rfl <| r_nx h28 <| c_rt ?_; rotate_left)
  exact WE.ret1 b rfl rfl rfl trivial Mem.keep
set_option maxRecDepth 100000 in
theorem turned_none (c : Nat) (w0 : World) (m0 : List Res) :
    Ct (α := Nat) Tryz.prog 14 [.slice none 0 c] w0 [] m0 (fun _ => True) (fun b => .slice (some ⟨b, 0, none⟩) 0 0) (fun b => [.blk b [] 9]) := by
  refine Ct.of Tryz.func14 rfl (by kernel_rfl) rfl ?_
  (refine c_sq fun k4 h4 => c_rg <| r_as rfl rfl <| r_nx h4 <| c_sq fun k6 h6 => c_rg <| r_mv rfl rfl <| r_ls Tryz.underlying23 rfl rfl ?_; rotate_left)
  refine r_mk (n := 0) (by_ := 16) (z := .string ⟨#[]⟩) Tryz.underlying23 (by kernel_rfl) rfl rfl (by omega) rfl (fun b xs hxs => ?_)
  refine WX.open0 0 rfl (fun cur h1 h2 h3 h4 => ?_)
  obtain rfl : cur = [] := List.length_eq_zero_iff.1 h1
  (refine r_as rfl rfl <| r_nx h6 <| c_sq fun k18 h18 => c_rg <| r_mv rfl rfl <| r_mv rfl rfl ?_; rotate_left)
  refine WX.q (d := 9) (v := .int .i64 0) (fun ev hev w _ => by
    have h1 := hev (.tmp 7) (.slice (some ⟨b, 0, none⟩) 0 0) rfl
    have h2 := hev (.tmp 8) (.slice none 0 c) rfl
    have hrun := run_copy_none (P := Tryz.prog) w 23 23 3 9 (some ⟨b, 0, none⟩) none 0 0 0 c Tryz.underlying23 (by kernel_rfl) rfl
    simp only [goInt] at hrun
    simp [execOp, resolve, invoke, builtin, h1, h2, hrun]) rfl rfl rfl rfl ?_
  (refine r_nx h18 <| c_sq fun k20 h20 => c_rg <| r_mv rfl rfl ?_; rotate_left)
  refine WX.call (m1 := [.blk b [] 9]) (m2 := []) rfl rfl rfl (reverseS_spec b [] (by simp) _ _) rfl rfl (fun _ _ => ?_)
  (refine r_nx h20 <| c_sq fun k24 h24 => c_rg <| r_mv rfl rfl <| r_as rfl rfl <| r_nx h24 <| c_rt ?_; rotate_left)
  exact WE.ret1 b rfl rfl rfl trivial Mem.keep
theorem turned_spec (A : Option Addr) (c : Nat) (l : List ByteArray) (hn : l.length ≤ 900000) (w0 : World) (m0 : List Res) (hA : Rd w0 m0 A (strsV l)) (hA2 : 0 < l.length → A.isSome = true) :
    Ct (α := Nat) Tryz.prog 14 [.slice A l.length c] w0 [] m0 (fun _ => True) (fun b => .slice (some ⟨b, 0, none⟩) l.length l.length) (fun b => [.blk b (strsV l.reverse) 9]) := by
  cases A with
  | some a => exact turned_some a c l hn w0 m0 hA
  | none =>
    cases l with
    | nil => exact turned_none c w0 m0
    | cons x r => exact absurd (hA2 (by simp)) (by simp)

/-- A name's labels. -/
def trimP (l : List ByteArray) : List ByteArray := if 1 < l.length ∧ l[l.length - 1]? = some ⟨#[]⟩ then l.take (l.length - 1) else l
def labelsP (s : ByteArray) : Option (List ByteArray) := if 0 ≤ idxB ⟨#[]⟩ (trimP (splitS 46 s)) then none else some (trimP (splitS 46 s)).reverse
abbrev labV : Option (List ByteArray) → Nat → Value
  | none, _ => .tuple #[.slice none 0 0, .bool false]
  | some l, b => .tuple #[.slice (some ⟨b, 0, none⟩) l.length l.length, .bool true]
abbrev labM : Option (List ByteArray) → Nat → List Res
  | none, _ => []
  | some l, b => [.blk b (strsV l) 9]
theorem trimP_le (l : List ByteArray) : (trimP l).length ≤ l.length := by
  unfold trimP
  split
  · simp
  · exact Nat.le_refl _
theorem trimP_ne (l : List ByteArray) (h : l ≠ []) : trimP l ≠ [] := by
  unfold trimP
  split
  · rename_i h2
    intro h3
    have := congrArg List.length h3
    simp at this
    omega
  · exact h
set_option maxRecDepth 100000 in
/-- What follows the cut. -/
theorem labels_spec (s : ByteArray) (hs : s.size ≤ 800000) (w0 : World) (m0 : List Res) :
    Ct (α := Nat) Tryz.prog 5 [.string s] w0 [] m0 (fun _ => True) (labV (labelsP s)) (labM (labelsP s)) := by
  have hN2 := splitS_len 46 s
  have hne := List.length_pos_iff.2 (splitS_ne 46 s)
  obtain ⟨L, hL⟩ : ∃ L, splitS 46 s = L := ⟨_, rfl⟩
  have hsp : ∀ m0, Ct (α := Nat) Tryz.prog 12 [.string s, .string ⟨#[46]⟩] w0 [] m0 (fun _ => True) (fun b => .slice (some ⟨b, 0, none⟩) L.length L.length) (fun b => [.own (some ⟨b, 0, none⟩) L.length L.length (strsV L) 9 1]) := fun m0 => by
    have := split_spec s 46 hs w0 m0
    rw [hL] at this
    exact this
  unfold labelsP
  rw [hL] at hN2 hne ⊢
  have hRd : ∀ (b : Nat) (mm : List Res), Rd w0 (([.own (some ⟨b, 0, none⟩) L.length L.length (strsV L) 9 1] ++ []) ++ mm) (some ⟨b, 0, none⟩) (strsV (trimP L)) := fun b mm => by
    have h1 : Rd w0 (([.own (some ⟨b, 0, none⟩) L.length L.length (strsV L) 9 1] ++ []) ++ mm) (some ⟨b, 0, none⟩) (strsV L) := Rd.own 0 rfl
    unfold trimP
    split
    · unfold Rd at h1 ⊢
      intro w hw j v hv
      refine h1 w hw j v ?_
      rw [strsV, List.map_take, List.getElem?_take] at hv
      split at hv
      · exact hv
      · cases hv
    · exact h1
  have hTL := trimP_le L
  by_cases htr : 1 < L.length ∧ L[L.length - 1]? = some ⟨#[]⟩
  · have hT : trimP L = L.take (L.length - 1) := by unfold trimP; rw [if_pos htr]
    have hTl : (trimP L).length = L.length - 1 := by rw [hT]; simp
    have hget : L.getD (L.length - 1) ⟨#[]⟩ = ⟨#[]⟩ := by rw [List.getD_eq_getElem?_getD, htr.2]; rfl
    have h1 := htr.1
    by_cases hin : 0 ≤ idxB ⟨#[]⟩ (trimP L)
    · rw [if_pos hin]
      refine Ct.of Tryz.func5 rfl (by kernel_rfl) rfl ?_
      (refine c_sq fun k20 h20 => c_rg <| r_as rfl rfl <| r_as rfl rfl <| r_nx h20 <| c_sq fun k22 h22 => c_rg <| r_mv rfl rfl ?_; rotate_left)
      refine WX.call (m1 := []) (m2 := []) rfl rfl rfl (hsp _) rfl rfl (fun b _ => ?_)
      (refine r_as rfl rfl <| r_nx h22 <| c_sq fun k26 h26 => c_sq fun k28 h28 => c_rg <| r_mv rfl rfl <| r_ls Tryz.underlying23 rfl rfl <| r_su rfl rfl rfl (wsub64 (by omega)) <| r_as rfl rfl <| r_nx h28 <| c_sq fun k30 h30 => c_rg <| r_mv rfl rfl <| r_gtT rfl rfl rfl (by omega) <| r_mv rfl rfl <| r_mv rfl rfl <| r_mv rfl rfl <| r_im (Rd.own 0 rfl) Tryz.underlying23 (by kernel_rfl) rfl rfl rfl rfl (by omega) (by omega) ?_; rotate_left)
      refine r_lt ((L.length : Nat) - 1 : Int).toNat (Rd.own 0 rfl) Tryz.underlying9 rfl rfl rfl (by omega) ?_
      rw [show ((L.length : Nat) - 1 : Int).toNat = L.length - 1 by omega, hget]
      (rotate_left)
      refine r_seq rfl rfl (fun _ => by kernel_rfl) rfl ?_
      rw [decide_eq_true rfl]
      (refine r_pT rfl rfl rfl <| r_nx h30 <| c_cT rfl <| c_rg <| r_mv rfl rfl <| r_mv rfl rfl ?_; rotate_left)
      refine r_sto elemS sizeS rfl rfl (by omega) (by omega) rfl ?_
      rw [sliced_0, show ((L.length : Nat) - 1 : Int).toNat = (trimP L).length by omega]
      (refine r_as rfl rfl <| r_nx h26 <| c_sq fun k32 h32 => c_sq fun k34 h34 => c_rg <| r_mv rfl rfl ?_; rotate_left)
      refine WX.pure rfl rfl (containsS_spec _ _ (trimP L) _ (by omega) _ _ (hRd b _) (fun _ => rfl)) rfl rfl ?_
      rw [decide_eq_true hin]
      (refine r_nx h34 <| c_cT rfl <| c_sq fun k36 h36 => c_rg <| r_as rfl rfl <| r_as rfl rfl <| r_nx h36 <| c_rt <| WE.then_r ?_; rotate_left)
      exact WE.ret2 b rfl rfl rfl rfl rfl trivial Mem.drop
    · rw [if_neg hin]
      refine Ct.of Tryz.func5 rfl (by kernel_rfl) rfl ?_
      (refine c_sq fun k20 h20 => c_rg <| r_as rfl rfl <| r_as rfl rfl <| r_nx h20 <| c_sq fun k22 h22 => c_rg <| r_mv rfl rfl ?_; rotate_left)
      refine WX.call (m1 := []) (m2 := []) rfl rfl rfl (hsp _) rfl rfl (fun b _ => ?_)
      (refine r_as rfl rfl <| r_nx h22 <| c_sq fun k26 h26 => c_sq fun k28 h28 => c_rg <| r_mv rfl rfl <| r_ls Tryz.underlying23 rfl rfl <| r_su rfl rfl rfl (wsub64 (by omega)) <| r_as rfl rfl <| r_nx h28 <| c_sq fun k30 h30 => c_rg <| r_mv rfl rfl <| r_gtT rfl rfl rfl (by omega) <| r_mv rfl rfl <| r_mv rfl rfl <| r_mv rfl rfl <| r_im (Rd.own 0 rfl) Tryz.underlying23 (by kernel_rfl) rfl rfl rfl rfl (by omega) (by omega) ?_; rotate_left)
      refine r_lt ((L.length : Nat) - 1 : Int).toNat (Rd.own 0 rfl) Tryz.underlying9 rfl rfl rfl (by omega) ?_
      rw [show ((L.length : Nat) - 1 : Int).toNat = L.length - 1 by omega, hget]
      (rotate_left)
      refine r_seq rfl rfl (fun _ => by kernel_rfl) rfl ?_
      rw [decide_eq_true rfl]
      (refine r_pT rfl rfl rfl <| r_nx h30 <| c_cT rfl <| c_rg <| r_mv rfl rfl <| r_mv rfl rfl ?_; rotate_left)
      refine r_sto elemS sizeS rfl rfl (by omega) (by omega) rfl ?_
      rw [sliced_0, show ((L.length : Nat) - 1 : Int).toNat = (trimP L).length by omega]
      (refine r_as rfl rfl <| r_nx h26 <| c_sq fun k32 h32 => c_sq fun k34 h34 => c_rg <| r_mv rfl rfl ?_; rotate_left)
      refine WX.pure rfl rfl (containsS_spec _ _ (trimP L) _ (by omega) _ _ (hRd b _) (fun _ => rfl)) rfl rfl ?_
      rw [decide_eq_false hin]
      (refine r_nx h34 <| c_cF rfl <| c_sk <| WE.then_n h32 <| c_sq fun k36 h36 => c_rg <| r_mv rfl rfl ?_; rotate_left)
      refine WX.call (m1 := []) (m2 := _) rfl rfl rfl (turned_spec _ _ (trimP L) (by omega) _ _ (hRd b _) (fun _ => rfl)) rfl rfl (fun b2 _ => ?_)
      (refine r_as rfl rfl <| r_as rfl rfl <| r_nx h36 <| c_rt ?_; rotate_left)
      exact WE.ret2 b2 rfl rfl rfl rfl (by show Value.tuple #[.slice _ (trimP L).reverse.length (trimP L).reverse.length, _] = _; rw [List.length_reverse]) trivial (Mem.pick [0] (by decide) rfl)
  · have hT : trimP L = L := by unfold trimP; rw [if_neg htr]
    rw [hT] at hRd ⊢
    by_cases h1 : 1 < L.length
    · have hget : ¬ L.getD (L.length - 1) ⟨#[]⟩ = ⟨#[]⟩ := fun h => htr ⟨h1, by
        rw [List.getD_eq_getElem?_getD] at h
        rw [List.getElem?_eq_getElem (by omega)] at h ⊢
        exact congrArg some h⟩
      by_cases hin : 0 ≤ idxB ⟨#[]⟩ (L)
      · rw [if_pos hin]
        refine Ct.of Tryz.func5 rfl (by kernel_rfl) rfl ?_
        (refine c_sq fun k20 h20 => c_rg <| r_as rfl rfl <| r_as rfl rfl <| r_nx h20 <| c_sq fun k22 h22 => c_rg <| r_mv rfl rfl ?_; rotate_left)
        refine WX.call (m1 := []) (m2 := []) rfl rfl rfl (hsp _) rfl rfl (fun b _ => ?_)
        (refine r_as rfl rfl <| r_nx h22 <| c_sq fun k26 h26 => c_sq fun k28 h28 => c_rg <| r_mv rfl rfl <| r_ls Tryz.underlying23 rfl rfl <| r_su rfl rfl rfl (wsub64 (by omega)) <| r_as rfl rfl <| r_nx h28 <| c_sq fun k30 h30 => c_rg <| r_mv rfl rfl <| r_gtT rfl rfl rfl (by omega) <| r_mv rfl rfl <| r_mv rfl rfl <| r_mv rfl rfl <| r_im (Rd.own 0 rfl) Tryz.underlying23 (by kernel_rfl) rfl rfl rfl rfl (by omega) (by omega) ?_; rotate_left)
        refine r_lt ((L.length : Nat) - 1 : Int).toNat (Rd.own 0 rfl) Tryz.underlying9 rfl rfl rfl (by omega) ?_
        rw [show ((L.length : Nat) - 1 : Int).toNat = L.length - 1 by omega]
        (rotate_left)
        refine r_seq rfl rfl (fun _ => by kernel_rfl) rfl ?_
        rw [decide_eq_false hget]
        (refine r_pT rfl rfl rfl <| r_nx h30 <| c_cF rfl <| c_sk <| WE.then_n h26 <| c_sq fun k32 h32 => c_sq fun k34 h34 => c_rg <| r_mv rfl rfl ?_; rotate_left)
        refine WX.pure rfl rfl (containsS_spec _ _ (L) _ (by omega) _ _ (hRd b _) (fun _ => rfl)) rfl rfl ?_
        rw [decide_eq_true hin]
        (refine r_nx h34 <| c_cT rfl <| c_sq fun k36 h36 => c_rg <| r_as rfl rfl <| r_as rfl rfl <| r_nx h36 <| c_rt <| WE.then_r ?_; rotate_left)
        exact WE.ret2 b rfl rfl rfl rfl rfl trivial Mem.drop
      · rw [if_neg hin]
        refine Ct.of Tryz.func5 rfl (by kernel_rfl) rfl ?_
        (refine c_sq fun k20 h20 => c_rg <| r_as rfl rfl <| r_as rfl rfl <| r_nx h20 <| c_sq fun k22 h22 => c_rg <| r_mv rfl rfl ?_; rotate_left)
        refine WX.call (m1 := []) (m2 := []) rfl rfl rfl (hsp _) rfl rfl (fun b _ => ?_)
        (refine r_as rfl rfl <| r_nx h22 <| c_sq fun k26 h26 => c_sq fun k28 h28 => c_rg <| r_mv rfl rfl <| r_ls Tryz.underlying23 rfl rfl <| r_su rfl rfl rfl (wsub64 (by omega)) <| r_as rfl rfl <| r_nx h28 <| c_sq fun k30 h30 => c_rg <| r_mv rfl rfl <| r_gtT rfl rfl rfl (by omega) <| r_mv rfl rfl <| r_mv rfl rfl <| r_mv rfl rfl <| r_im (Rd.own 0 rfl) Tryz.underlying23 (by kernel_rfl) rfl rfl rfl rfl (by omega) (by omega) ?_; rotate_left)
        refine r_lt ((L.length : Nat) - 1 : Int).toNat (Rd.own 0 rfl) Tryz.underlying9 rfl rfl rfl (by omega) ?_
        rw [show ((L.length : Nat) - 1 : Int).toNat = L.length - 1 by omega]
        (rotate_left)
        refine r_seq rfl rfl (fun _ => by kernel_rfl) rfl ?_
        rw [decide_eq_false hget]
        (refine r_pT rfl rfl rfl <| r_nx h30 <| c_cF rfl <| c_sk <| WE.then_n h26 <| c_sq fun k32 h32 => c_sq fun k34 h34 => c_rg <| r_mv rfl rfl ?_; rotate_left)
        refine WX.pure rfl rfl (containsS_spec _ _ (L) _ (by omega) _ _ (hRd b _) (fun _ => rfl)) rfl rfl ?_
        rw [decide_eq_false hin]
        (refine r_nx h34 <| c_cF rfl <| c_sk <| WE.then_n h32 <| c_sq fun k36 h36 => c_rg <| r_mv rfl rfl ?_; rotate_left)
        refine WX.call (m1 := []) (m2 := _) rfl rfl rfl (turned_spec _ _ (L) (by omega) _ _ (hRd b _) (fun _ => rfl)) rfl rfl (fun b2 _ => ?_)
        (refine r_as rfl rfl <| r_as rfl rfl <| r_nx h36 <| c_rt ?_; rotate_left)
        exact WE.ret2 b2 rfl rfl rfl rfl (by show Value.tuple #[.slice _ (L).reverse.length (L).reverse.length, _] = _; rw [List.length_reverse]) trivial (Mem.pick [0] (by decide) rfl)
    · by_cases hin : 0 ≤ idxB ⟨#[]⟩ (L)
      · rw [if_pos hin]
        refine Ct.of Tryz.func5 rfl (by kernel_rfl) rfl ?_
        (refine c_sq fun k19 h19 => c_rg <| r_as rfl rfl <| r_as rfl rfl <| r_nx h19 <| c_sq fun k21 h21 => c_rg <| r_mv rfl rfl ?_; rotate_left)
        refine WX.call (m1 := []) (m2 := []) rfl rfl rfl (hsp _) rfl rfl (fun b _ => ?_)
        (refine r_as rfl rfl <| r_nx h21 <| c_sq fun k25 h25 => c_sq fun k27 h27 => c_rg <| r_mv rfl rfl <| r_ls Tryz.underlying23 rfl rfl <| r_su rfl rfl rfl (wsub64 (by omega)) <| r_as rfl rfl <| r_nx h27 <| c_sq fun k29 h29 => c_rg <| r_mv rfl rfl <| r_gtF rfl rfl rfl (by omega) <| r_mv rfl rfl <| r_sk rfl rfl <| r_sk rfl rfl <| r_sk rfl rfl <| r_sk rfl rfl <| r_sk rfl rfl <| r_pF rfl rfl rfl <| r_nx h29 <| c_cF rfl <| c_sk <| WE.then_n h25 <| c_sq fun k31 h31 => c_sq fun k33 h33 => c_rg <| r_mv rfl rfl ?_; rotate_left)
        refine WX.pure rfl rfl (containsS_spec _ _ (L) _ (by omega) _ _ (hRd b _) (fun _ => rfl)) rfl rfl ?_
        rw [decide_eq_true hin]
        (refine r_nx h33 <| c_cT rfl <| c_sq fun k35 h35 => c_rg <| r_as rfl rfl <| r_as rfl rfl <| r_nx h35 <| c_rt <| WE.then_r ?_; rotate_left)
        exact WE.ret2 b rfl rfl rfl rfl rfl trivial Mem.drop
      · rw [if_neg hin]
        refine Ct.of Tryz.func5 rfl (by kernel_rfl) rfl ?_
        (refine c_sq fun k19 h19 => c_rg <| r_as rfl rfl <| r_as rfl rfl <| r_nx h19 <| c_sq fun k21 h21 => c_rg <| r_mv rfl rfl ?_; rotate_left)
        refine WX.call (m1 := []) (m2 := []) rfl rfl rfl (hsp _) rfl rfl (fun b _ => ?_)
        (refine r_as rfl rfl <| r_nx h21 <| c_sq fun k25 h25 => c_sq fun k27 h27 => c_rg <| r_mv rfl rfl <| r_ls Tryz.underlying23 rfl rfl <| r_su rfl rfl rfl (wsub64 (by omega)) <| r_as rfl rfl <| r_nx h27 <| c_sq fun k29 h29 => c_rg <| r_mv rfl rfl <| r_gtF rfl rfl rfl (by omega) <| r_mv rfl rfl <| r_sk rfl rfl <| r_sk rfl rfl <| r_sk rfl rfl <| r_sk rfl rfl <| r_sk rfl rfl <| r_pF rfl rfl rfl <| r_nx h29 <| c_cF rfl <| c_sk <| WE.then_n h25 <| c_sq fun k31 h31 => c_sq fun k33 h33 => c_rg <| r_mv rfl rfl ?_; rotate_left)
        refine WX.pure rfl rfl (containsS_spec _ _ (L) _ (by omega) _ _ (hRd b _) (fun _ => rfl)) rfl rfl ?_
        rw [decide_eq_false hin]
        (refine r_nx h33 <| c_cF rfl <| c_sk <| WE.then_n h31 <| c_sq fun k35 h35 => c_rg <| r_mv rfl rfl ?_; rotate_left)
        refine WX.call (m1 := []) (m2 := _) rfl rfl rfl (turned_spec _ _ (L) (by omega) _ _ (hRd b _) (fun _ => rfl)) rfl rfl (fun b2 _ => ?_)
        (refine r_as rfl rfl <| r_as rfl rfl <| r_nx h35 <| c_rt ?_; rotate_left)
        exact WE.ret2 b2 rfl rfl rfl rfl (by show Value.tuple #[.slice _ (L).reverse.length (L).reverse.length, _] = _; rw [List.length_reverse]) trivial (Mem.pick [0] (by decide) rfl)
end Go.Proofs.YtkggplnigjlegaaGreatDoor

/- The document's word, Turned, Split and Labels: the walks. -/
set_option linter.unusedVariables false
set_option linter.unusedSimpArgs false
namespace Go.Proofs.YtkggplnigjlegaaGreatDoor
open Go.RowKit Go.Gp

abbrev OwnS (p : Option Addr × Nat) (l : List ByteArray) : Res := .own p.1 p.2 l.length (strsV l) 9 1
abbrev SlS (p : Option Addr × Nat) (l : List ByteArray) : Value := .slice p.1 l.length p.2
theorem take_snocL {α : Type} (l : List α) (i : Nat) (x : α) (h : l[i]? = some x) : l.take (i + 1) = l.take i ++ [x] := by rw [List.take_add_one, h]; rfl
set_option maxRecDepth 100000 in
theorem rword_spec (s : ByteArray) (hs : s.size ≤ 800000) (w0 : World) (m0 : List Res) : PureC Tryz.prog 21 [.string s] w0 m0 (.string (wordS s)) := by
  refine Ct.of Tryz.func21 rfl (by kernel_rfl) rfl ?_
  (refine c_sq fun k5 h5 => c_rg <| r_as rfl rfl <| r_nx h5 <| c_sq fun k7 h7 => c_rg <| r_as rfl rfl <| r_nx h7 <| c_sq fun k9 h9 => c_bl ?_; rotate_left)
  refine WC.loop (α := Nat) (fun i => [(0, .string s), (3, .int .i64 (i : Nat))]) (fun _ => []) (fun i => i ≤ s.size ∧ ∀ y ∈ s.data.toList.take i, 32 < y.toNat) (fun i => s.size - i) 0 ⟨by omega, by simp⟩ ⟨rfl, rfl, trivial⟩ Mem.keep ?_
  rintro i ⟨hi, hall⟩
  by_cases hlt : i < s.size
  · have hb := get_at s i hlt
    generalize s.get! i = x at hb
    by_cases hx : 32 < x.toNat
    · (refine c_sq fun k18 h18 => c_sq fun k20 h20 => c_rg <| r_mv rfl rfl <| r_mv rfl rfl <| r_lS Tryz.underlying9 rfl rfl <| r_ltT rfl rfl rfl (by omega) <| r_mv rfl rfl <| r_mv rfl rfl <| r_mv rfl rfl ?_; rotate_left)
      refine r_iS (v := x) Tryz.underlying9 rfl rfl rfl (by omega) (by rw [← Array.getElem?_toList]; exact hb) ?_
      (refine r_gtT rfl rfl rfl (by omega) <| r_pT rfl rfl rfl <| r_nx h20 <| c_cT rfl <| c_sk <| WE.then_n h18 <| c_bl <| c_rg <| r_mv rfl rfl <| r_ad rfl rfl rfl (wadd64 (by omega)) <| r_as rfl rfl <| r_nl <| WE.blk_n ?_; rotate_left)
      exact WE.back (i + 1) ⟨by omega, fun y hy => by
        rw [take_snocL _ _ _ hb] at hy
        rcases List.mem_append.1 hy with hy | hy
        · exact hall y hy
        · rw [List.mem_singleton] at hy; rw [hy]; exact hx⟩ (by omega) ⟨rfl, rfl, trivial⟩ Mem.keep
    · have e : wordS s = s.extract 0 ((i : Int)).toNat := by
        unfold wordS
        rw [(lowL_at i s.data.toList x hall hb (by omega)).2, ext_take s _ (by omega)]
        rfl
      (refine c_sq fun k19 h19 => c_sq fun k21 h21 => c_rg <| r_mv rfl rfl <| r_mv rfl rfl <| r_lS Tryz.underlying9 rfl rfl <| r_ltT rfl rfl rfl (by omega) <| r_mv rfl rfl <| r_mv rfl rfl <| r_mv rfl rfl ?_; rotate_left)
      refine r_iS (v := x) Tryz.underlying9 rfl rfl rfl (by omega) (by rw [← Array.getElem?_toList]; exact hb) ?_
      (refine r_gtF rfl rfl rfl (by omega) <| r_pT rfl rfl rfl <| r_nx h21 <| c_cF rfl <| c_ex <| WE.then_x <| WE.then_x <| WE.blk_x <| WE.then_n h9 <| c_sq fun k23 h23 => c_rg <| r_mv rfl rfl <| r_mv rfl rfl ?_; rotate_left)
      refine r_sT Tryz.underlying9 rfl rfl (by omega) (by omega) rfl ?_
      rw [← e]
      (refine r_as rfl rfl <| r_nx h23 <| c_rt ?_; rotate_left)
      exact WE.ret1 () rfl rfl rfl trivial Mem.drop
  · have e : wordS s = s.extract 0 ((i : Int)).toNat := by
      have h1 : s.data.toList.take i = s.data.toList := List.take_of_length_le (by rw [size_list]; omega)
      rw [h1] at hall
      unfold wordS
      rw [(lowL_no s.data.toList hall).2, ext_take s _ (by omega), show ((i : Int)).toNat = i from rfl, h1]
    (refine c_sq fun k16 h16 => c_sq fun k18 h18 => c_rg <| r_mv rfl rfl <| r_mv rfl rfl <| r_lS Tryz.underlying9 rfl rfl <| r_ltF rfl rfl rfl (by omega) <| r_mv rfl rfl <| r_sk rfl rfl <| r_sk rfl rfl <| r_sk rfl rfl <| r_sk rfl rfl <| r_pF rfl rfl rfl <| r_nx h18 <| c_cF rfl <| c_ex <| WE.then_x <| WE.then_x <| WE.blk_x <| WE.then_n h9 <| c_sq fun k20 h20 => c_rg <| r_mv rfl rfl <| r_mv rfl rfl ?_; rotate_left)
    refine r_sT Tryz.underlying9 rfl rfl (by omega) (by omega) rfl ?_
    rw [← e]
    (refine r_as rfl rfl <| r_nx h20 <| c_rt ?_; rotate_left)
    exact WE.ret1 () rfl rfl rfl trivial Mem.drop
set_option maxRecDepth 100000 in
theorem rturned_spec (A : Option Addr) (c : Nat) (l : List ByteArray) (hn : l.length ≤ 900000) (w0 : World) (m0 : List Res) (hA : Rd w0 m0 A (strsV l)) (hA2 : 0 < l.length → A.isSome = true) :
    Ct (α := Option Addr × Nat) Tryz.prog 16 [.slice A l.length c] w0 [] m0 (fun _ => True) (fun p => SlS p l.reverse) (fun p => [OwnS p l.reverse]) := by
  refine Ct.of Tryz.func16 rfl (by kernel_rfl) rfl ?_
  (refine c_sq fun k9 h9 => c_rg <| r_as rfl rfl <| r_nx h9 <| c_sq fun k11 h11 => c_rg <| r_as rfl rfl <| r_nx h11 <| c_sq fun k13 h13 => c_sq fun k15 h15 => c_rg <| r_mv rfl rfl <| r_ls Tryz.underlying23 rfl rfl <| r_su rfl rfl rfl (wsub64 (by omega)) <| r_as rfl rfl <| r_nx h15 <| c_bl ?_; rotate_left)
  refine WC.loop (α := Nat × (Option Addr × Nat)) (fun x => [(0, .slice A l.length c), (4, .int .i64 ((x.1 : Nat) - 1 : Int)), (3, SlS x.2 (l.drop x.1).reverse)]) (fun x => [OwnS x.2 (l.drop x.1).reverse]) (fun x => x.1 ≤ l.length) (fun x => x.1) (l.length, (none, 0)) (Nat.le_refl _) ⟨rfl, rfl, by
    show lk 3 _ = some (SlS (none, 0) (l.drop l.length).reverse)
    rw [List.drop_length]
    rfl, trivial⟩ (fun w hw => by
    show Mem w0 ([OwnS (none, 0) (l.drop l.length).reverse] ++ m0) w
    rw [List.drop_length]
    exact Mem.nilOwn _ _ w hw) ?_
  rintro ⟨k, p⟩ hk
  dsimp only at hk ⊢
  by_cases h0 : 0 < k
  · have hx : l[k - 1]? = some (l.getD (k - 1) ⟨#[]⟩) := by rw [List.getD_eq_getElem?_getD, List.getElem?_eq_getElem (by omega)]; rfl
    have hd : (l.drop (k - 1)).reverse = (l.drop k).reverse ++ [l.getD (k - 1) ⟨#[]⟩] := by
      rw [List.drop_eq_getElem_cons (by omega), show k - 1 + 1 = k by omega, List.reverse_cons, List.getD_eq_getElem?_getD, List.getElem?_eq_getElem (by omega)]
      rfl
    have hln : (l.drop k).reverse.length = l.length - k := by simp
    (refine c_sq fun k24 h24 => c_sq fun k26 h26 => c_rg <| r_mv rfl rfl <| r_geT rfl rfl rfl (by omega) <| r_nx h26 <| c_cT rfl <| c_sk <| WE.then_n h24 <| c_sq fun k28 h28 => c_bl <| c_rg <| r_mv rfl rfl <| r_mv rfl rfl <| r_mv rfl rfl <| r_im (hA.app _) Tryz.underlying23 (by kernel_rfl) rfl rfl rfl rfl (by omega) (by omega) ?_; rotate_left)
    refine r_lt ((k : Int) - 1).toNat (hA.app _) Tryz.underlying9 rfl rfl rfl (by omega) ?_
    rw [show ((k : Int) - 1).toNat = k - 1 by omega]
    (refine r_bo Tryz.underlying23 rfl (fun _ => by kernel_rfl) rfl rfl rfl (fun _ => ?_); rotate_left)
    refine r_am (xs := (l.drop k).reverse) (ys := [l.getD (k - 1) ⟨#[]⟩]) 1 (z := .string ⟨#[]⟩) (by_ := 16) (f := (.string ·)) Tryz.underlying23 (by kernel_rfl) rfl rfl rfl rfl (Rd.own 0 rfl) rfl (fun _ => rfl) (by omega) rfl (fun p2 _ => ?_)
    rw [← hd]
    (refine r_as rfl rfl <| r_nl <| WE.blk_n <| WE.then_n h28 <| c_rg <| r_mv rfl rfl <| r_su rfl rfl rfl (wsub64 (by omega)) <| r_as rfl rfl <| r_nl ?_; rotate_left)
    exact WE.back (k - 1, p2) (by dsimp only; omega) (by dsimp only; omega) ⟨rfl, by rw [show ((k - 1 : Nat) : Int) - 1 = (k : Int) - 1 - 1 by omega]; rfl, rfl, trivial⟩ (Mem.pick [1] (by decide) rfl)
  · obtain rfl : k = 0 := by omega
    rw [show (l.drop 0).reverse = l.reverse from rfl]
    (refine c_sq fun k21 h21 => c_sq fun k23 h23 => c_rg <| r_mv rfl rfl <| r_geF rfl rfl rfl (by omega) <| r_nx h23 <| c_cF rfl <| c_ex <| WE.then_x <| WE.then_x <| WE.blk_x <| WE.then_n h13 <| c_sq fun k25 h25 => c_rg <| r_mv rfl rfl <| r_as rfl rfl <| r_nx h25 <| c_rt ?_; rotate_left)
    exact WE.ret1 p rfl rfl rfl trivial Mem.keep
theorem splitL_cutR (c : UInt8) : ∀ x r : List UInt8, (∀ y ∈ x, y ≠ c) → splitL c (x ++ c :: r) = x :: splitL c r
  | [], r, _ => by
    show splitL c (c :: r) = _
    rw [splitL, if_pos rfl]
  | z :: x, r, h => by
    rw [List.cons_append, splitL, if_neg (h z (by simp)), splitL_cutR c x r (fun y hy => h y (by simp [hy]))]
theorem splitL_end (c : UInt8) : ∀ l : List UInt8, (∀ x ∈ l, x ≠ c) → splitL c l = [l]
  | [], _ => rfl
  | x :: r, h => by
    rw [splitL, if_neg (h x (by simp)), splitL_end c r (fun y hy => h y (by simp [hy]))]
theorem ext_mid (s : ByteArray) (i j : Nat) : s.extract i j = strOf ((s.data.toList.drop i).take (j - i)) := by
  apply ba_ext
  rw [list_strOf, ByteArray.data_extract, Array.toList_extract, List.extract_eq_take_drop]
set_option maxRecDepth 100000 in
theorem rsplit_spec (s : ByteArray) (c : UInt8) (hs : s.size ≤ 800000) (w0 : World) (m0 : List Res) :
    Ct (α := Option Addr × Nat) Tryz.prog 15 [.string s, .int .u8 c.toNat] w0 [] m0 (fun _ => True) (fun p => SlS p (splitS c s)) (fun p => [OwnS p (splitS c s)]) := by
  refine Ct.of Tryz.func15 rfl (by kernel_rfl) rfl ?_
  (refine c_sq fun k6 h6 => c_rg <| r_as rfl rfl <| r_nx h6 <| c_sq fun k8 h8 => c_rg <| r_as rfl rfl <| r_nx h8 <| c_sq fun k10 h10 => c_rg <| r_as rfl rfl <| r_nx h10 <| c_sq fun k12 h12 => c_sq fun k14 h14 => c_rg <| r_as rfl rfl <| r_nx h14 <| c_bl ?_; rotate_left)
  refine WC.loop (α := Nat × Nat × List ByteArray × (Option Addr × Nat)) (fun x => [(0, .string s), (1, .int .u8 c.toNat), (5, SlS x.2.2.2 x.2.2.1), (6, .int .i64 (x.2.1 : Nat)), (7, .int .i64 (x.1 : Nat))]) (fun x => [OwnS x.2.2.2 x.2.2.1])
    (fun x => x.2.2.1.length ≤ x.1 ∧ ((x.1 ≤ s.size ∧ x.2.1 ≤ x.1 ∧ (∀ y ∈ (s.data.toList.drop x.2.1).take (x.1 - x.2.1), y ≠ c) ∧ x.2.2.1 ++ (splitL c (s.data.toList.drop x.2.1)).map strOf = splitS c s) ∨ (x.1 = s.size + 1 ∧ x.2.2.1 = splitS c s)))
    (fun x => s.size + 1 - x.1) (0, 0, [], (none, 0)) ⟨Nat.le_refl _, .inl ⟨Nat.zero_le _, Nat.le_refl _, by simp, rfl⟩⟩ ⟨rfl, rfl, rfl, rfl, rfl, trivial⟩ (Mem.nilOwn _ _) ?_
  rintro ⟨i, fr, acc, p⟩ ⟨hl, h⟩
  dsimp only at hl h ⊢
  rcases h with ⟨hi, hf, hn, e⟩ | ⟨hi, e⟩
  · have hgoal : ∀ (piece : ByteArray) (rest : List ByteArray), (splitL c (s.data.toList.drop fr)).map strOf = piece :: rest → acc ++ [piece] ++ rest = splitS c s := fun piece rest h => by rw [h] at e; rw [← e]; simp
    by_cases hlt : i < s.size
    · have hb := get_at s i hlt
      have hdr : s.data.toList.drop fr = (s.data.toList.drop fr).take (i - fr) ++ s.data.toList.drop i := by
        conv => lhs; rw [← List.take_append_drop (i - fr) (s.data.toList.drop fr)]
        rw [List.drop_drop, show fr + (i - fr) = i by omega]
      have hdi : s.data.toList.drop i = s.get! i :: s.data.toList.drop (i + 1) := by
        rw [List.drop_eq_getElem_cons (by rw [size_list]; exact hlt)]
        rw [List.getElem?_eq_getElem (by rw [size_list]; exact hlt)] at hb
        rw [Option.some.inj hb]
      generalize s.get! i = b at hb hdi
      by_cases hbc : b = c
      · subst hbc
        have hsp : (splitL b (s.data.toList.drop fr)).map strOf = s.extract fr i :: (splitL b (s.data.toList.drop (i + 1))).map strOf := by
          rw [hdr, hdi, splitL_cutR b _ _ hn, ext_mid]
          rfl
        have e2 := hgoal _ _ hsp
        (refine c_sq fun k42 h42 => c_sq fun k44 h44 => c_rg <| r_mv rfl rfl <| r_mv rfl rfl <| r_lS Tryz.underlying9 rfl rfl <| r_leT rfl rfl rfl (by omega) <| r_nx h44 <| c_cT rfl <| c_sk <| WE.then_n h42 <| c_sq fun k46 h46 => c_bl <| c_sq fun k48 h48 => c_rg <| r_mv rfl rfl <| r_mv rfl rfl <| r_lS Tryz.underlying9 rfl rfl <| r_eqF rfl rfl rfl (by omega) <| r_mv rfl rfl <| r_mv rfl rfl <| r_mv rfl rfl ?_; rotate_left)
        refine r_iS (v := b) Tryz.underlying9 rfl rfl rfl (by omega) (by rw [← Array.getElem?_toList]; exact hb) ?_
        (refine r_mv rfl rfl <| r_eqT rfl rfl rfl (by omega) <| r_pF rfl rfl rfl <| r_nx h48 <| c_cT rfl <| c_sq fun k50 h50 => c_rg <| r_mv rfl rfl <| r_mv rfl rfl <| r_mv rfl rfl <| r_mv rfl rfl ?_; rotate_left)
        refine r_sS Tryz.underlying9 rfl rfl rfl (by omega) (by omega) (by omega) rfl ?_
        rw [show s.extract ((fr : Int)).toNat ((i : Int)).toNat = s.extract fr i by congr 1]
        (refine r_bo Tryz.underlying23 rfl (fun _ => by kernel_rfl) rfl rfl rfl (fun _ => ?_); rotate_left)
        refine r_am (xs := acc) (ys := [s.extract fr i]) 1 (z := .string ⟨#[]⟩) (by_ := 16) (f := (.string ·)) Tryz.underlying23 (by kernel_rfl) rfl rfl rfl rfl (Rd.own 0 rfl) rfl (fun _ => rfl) (by omega) rfl (fun p2 _ => ?_)
        (refine r_as rfl rfl <| r_nx h50 <| c_rg <| r_mv rfl rfl <| r_ad rfl rfl rfl (wadd64 (by omega)) <| r_as rfl rfl <| r_nl <| WE.blk_n <| WE.then_n h46 <| c_rg <| r_mv rfl rfl <| r_ad rfl rfl rfl (wadd64 (by omega)) <| r_as rfl rfl <| r_nl ?_; rotate_left)
        exact WE.back (i + 1, i + 1, acc ++ [s.extract fr i], p2) ⟨by rw [List.length_append]; dsimp only [List.length]; omega, .inl ⟨by dsimp only; omega, Nat.le_refl _, by dsimp only; rw [Nat.sub_self]; simp, e2⟩⟩ (by dsimp only; omega) ⟨rfl, rfl, rfl, rfl, rfl, trivial⟩ (Mem.pick [1] (by decide) rfl)
      · have hbc' : ¬ b.toNat = c.toNat := fun h => hbc (UInt8.toNat_inj.1 h)
        (refine c_sq fun k34 h34 => c_sq fun k36 h36 => c_rg <| r_mv rfl rfl <| r_mv rfl rfl <| r_lS Tryz.underlying9 rfl rfl <| r_leT rfl rfl rfl (by omega) <| r_nx h36 <| c_cT rfl <| c_sk <| WE.then_n h34 <| c_sq fun k38 h38 => c_bl <| c_sq fun k40 h40 => c_rg <| r_mv rfl rfl <| r_mv rfl rfl <| r_lS Tryz.underlying9 rfl rfl <| r_eqF rfl rfl rfl (by omega) <| r_mv rfl rfl <| r_mv rfl rfl <| r_mv rfl rfl ?_; rotate_left)
        refine r_iS (v := b) Tryz.underlying9 rfl rfl rfl (by omega) (by rw [← Array.getElem?_toList]; exact hb) ?_
        (refine r_mv rfl rfl <| r_eqF rfl rfl rfl (by omega) <| r_pF rfl rfl rfl <| r_nx h40 <| c_cF rfl <| c_sk <| WE.blk_n <| WE.then_n h38 <| c_rg <| r_mv rfl rfl <| r_ad rfl rfl rfl (wadd64 (by omega)) <| r_as rfl rfl <| r_nl ?_; rotate_left)
        exact WE.back (i + 1, fr, acc, p) ⟨by dsimp only; omega, .inl ⟨by dsimp only; omega, by dsimp only; omega, by
          dsimp only
          rw [show i + 1 - fr = (i - fr) + 1 by omega]
          intro y hy
          rw [take_snocL _ _ b (by rw [List.getElem?_drop, show fr + (i - fr) = i by omega]; exact hb)] at hy
          rcases List.mem_append.1 hy with hy | hy
          · exact hn y hy
          · rw [List.mem_singleton] at hy; rw [hy]; exact hbc, e⟩⟩ (by dsimp only; omega) ⟨rfl, rfl, rfl, rfl, rfl, trivial⟩ Mem.keep
    · obtain rfl : i = s.size := by omega
      have hall : (s.data.toList.drop fr).take (s.size - fr) = s.data.toList.drop fr := List.take_of_length_le (by rw [List.length_drop, size_list]; omega)
      have hsp : (splitL c (s.data.toList.drop fr)).map strOf = [s.extract fr s.size] := by
        rw [ext_mid, hall]
        rw [hall] at hn
        rw [splitL_end c _ hn]
        rfl
      have e2 := hgoal _ _ hsp
      rw [List.append_nil] at e2
      (refine c_sq fun k35 h35 => c_sq fun k37 h37 => c_rg <| r_mv rfl rfl <| r_mv rfl rfl <| r_lS Tryz.underlying9 rfl rfl <| r_leT rfl rfl rfl (by omega) <| r_nx h37 <| c_cT rfl <| c_sk <| WE.then_n h35 <| c_sq fun k39 h39 => c_bl <| c_sq fun k41 h41 => c_rg <| r_mv rfl rfl <| r_mv rfl rfl <| r_lS Tryz.underlying9 rfl rfl <| r_eqT rfl rfl rfl (by omega) <| r_mv rfl rfl <| r_sk rfl rfl <| r_sk rfl rfl <| r_sk rfl rfl <| r_sk rfl rfl <| r_sk rfl rfl <| r_pT rfl rfl rfl <| r_nx h41 <| c_cT rfl <| c_sq fun k43 h43 => c_rg <| r_mv rfl rfl <| r_mv rfl rfl <| r_mv rfl rfl <| r_mv rfl rfl ?_; rotate_left)
      refine r_sS Tryz.underlying9 rfl rfl rfl (by omega) (by omega) (by omega) rfl ?_
      rw [show s.extract ((fr : Int)).toNat ((s.size : Int)).toNat = s.extract fr s.size by congr 1]
      (refine r_bo Tryz.underlying23 rfl (fun _ => by kernel_rfl) rfl rfl rfl (fun _ => ?_); rotate_left)
      refine r_am (xs := acc) (ys := [s.extract fr s.size]) 1 (z := .string ⟨#[]⟩) (by_ := 16) (f := (.string ·)) Tryz.underlying23 (by kernel_rfl) rfl rfl rfl rfl (Rd.own 0 rfl) rfl (fun _ => rfl) (by omega) rfl (fun p2 _ => ?_)
      (refine r_as rfl rfl <| r_nx h43 <| c_rg <| r_mv rfl rfl <| r_ad rfl rfl rfl (wadd64 (by omega)) <| r_as rfl rfl <| r_nl <| WE.blk_n <| WE.then_n h39 <| c_rg <| r_mv rfl rfl <| r_ad rfl rfl rfl (wadd64 (by omega)) <| r_as rfl rfl <| r_nl ?_; rotate_left)
      exact WE.back (s.size + 1, s.size + 1, acc ++ [s.extract fr s.size], p2) ⟨by rw [List.length_append]; dsimp only [List.length]; omega, .inr ⟨rfl, e2⟩⟩ (by dsimp only; omega) ⟨rfl, rfl, rfl, rfl, rfl, trivial⟩ (Mem.pick [1] (by decide) rfl)
  · subst e
    (refine c_sq fun k23 h23 => c_sq fun k25 h25 => c_rg <| r_mv rfl rfl <| r_mv rfl rfl <| r_lS Tryz.underlying9 rfl rfl <| r_leF rfl rfl rfl (by omega) <| r_nx h25 <| c_cF rfl <| c_ex <| WE.then_x <| WE.then_x <| WE.blk_x <| WE.then_n h12 <| c_sq fun k27 h27 => c_rg <| r_mv rfl rfl <| r_as rfl rfl <| r_nx h27 <| c_rt ?_; rotate_left)
    exact WE.ret1 p rfl rfl rfl trivial Mem.keep
end Go.Proofs.YtkggplnigjlegaaGreatDoor

/- rules.Text: the walk. -/
set_option linter.unusedVariables false
set_option linter.unusedSimpArgs false
namespace Go.Proofs.YtkggplnigjlegaaGreatDoor
open Go.RowKit Go.Gp

/-- A rule as a line. -/
def textP (l : List ByteArray) (ex : Bool) : ByteArray := if ex then ⟨#[33]⟩ ++ joinP ⟨#[46]⟩ l.reverse else joinP ⟨#[46]⟩ l.reverse
set_option maxRecDepth 100000 in
theorem text_spec (A : Option Addr) (c : Nat) (l : List ByteArray) (ex : Bool) (hn : l.length ≤ 900000) (hs : ∀ s ∈ l, s.size ≤ 500000) (w0 : World) (m0 : List Res) (hA : Rd w0 m0 A (strsV l)) (hA2 : 0 < l.length → A.isSome = true) :
    PureC Tryz.prog 11 [.agg #[.slice A l.length c, .bool ex]] w0 m0 (.string (textP l ex)) := by
  have hs' : ∀ s ∈ l.reverse, s.size ≤ 500000 := fun s h => hs s (by simpa using h)
  refine Ct.of Tryz.func11 rfl (by kernel_rfl) rfl ?_
  (refine c_sq fun k12 h12 => c_rg <| r_bx rfl rfl rfl (fun _ => ?_); refine r_as rfl rfl <| r_nx h12 <| c_sq fun k15 h15 => c_rg <| r_fa 0 rfl (fun _ => by kernel_rfl) rfl <| r_lb 0 Tryz.underlying23 rfl rfl rfl rfl rfl ?_; rotate_left)
  rename_i b1
  refine WX.call (m1 := []) (m2 := _) rfl rfl rfl (turned_spec A c l hn _ _ (hA.app _) hA2) rfl rfl (fun b2 _ => ?_)
  have hrev : l.reverse.length = l.length := List.length_reverse
  rw [← hrev]
  (rotate_left)
  refine WX.pure rfl rfl (join_spec _ _ l.reverse (by omega) hs' (Nat.le_refl _) _ _ (Rd.blk 0 rfl)) rfl rfl ?_
  have hJ := joinP_size l.reverse hs'
  cases ex
  · (refine r_as rfl rfl <| r_nx h15 <| c_sq fun k23 h23 => c_sq fun k25 h25 => c_rg <| r_fa 1 rfl (fun _ => by kernel_rfl) rfl <| r_lb 1 Tryz.underlying4 rfl rfl rfl rfl rfl <| r_nx h25 <| c_cF rfl <| c_sk <| WE.then_n h23 <| c_sq fun k27 h27 => c_rg <| r_mv rfl rfl <| r_as rfl rfl <| r_nx h27 <| c_rt ?_; rotate_left)
    exact WE.ret1 () rfl rfl rfl trivial Mem.drop
  · (refine r_as rfl rfl <| r_nx h15 <| c_sq fun k23 h23 => c_sq fun k25 h25 => c_rg <| r_fa 1 rfl (fun _ => by kernel_rfl) rfl <| r_lb 1 Tryz.underlying4 rfl rfl rfl rfl rfl <| r_nx h25 <| c_cT rfl <| c_sq fun k27 h27 => c_rg <| r_mv rfl rfl ?_; rotate_left)
    have e1 : (⟨#[33]⟩ : ByteArray).size = 1 := rfl
    refine r_sad (s := ⟨#[33]⟩) rfl rfl rfl (by omega) ?_
    (refine r_as rfl rfl <| r_nx h27 <| c_rt <| WE.then_r ?_; rotate_left)
    exact WE.ret1 () rfl rfl rfl trivial Mem.drop
end Go.Proofs.YtkggplnigjlegaaGreatDoor

/- rules.words's iterator: the walk, for whatever loop body. -/
set_option linter.unusedVariables false
set_option linter.unusedSimpArgs false
namespace Go.Gp
open Go.RowKit
section
variable {α : Type} {C : Cx} {l : List (Nat × Value)} {m : List Res} {fn : Func} {φ : α → Prop} {val : α → Value} {M : α → List Res}
theorem WE.endM0 {dk : Nat} (k : Nat) (x : α) (hres : fn.results = #[]) (hD : C.D = [dmark dk]) (hk : m[k]? = some (.obj dk (.deferred (some [])))) (hv : val x = .tuple #[]) (hφ : φ x) (hM : ∀ w, Mem C.w0 (m.set k (.obj dk (.deferred none)) ++ C.m0) w → Mem C.w0 (M x ++ C.m0) w) :
    WE C (bpM C.P fn (sp C.w0 C.m0 φ val M)) .normal l m := by
  unfold WE
  intro a w hs
  have hw' : Mem C.w0 (m.set k (.obj dk (.deferred none)) ++ C.m0) (w.putObj dk (.deferred none)) := Mem.putObj hs.2 hk
  show LeavesInM _ _ _ _ _ _ a.defers _ _
  rw [hs.1.d, hD]
  refine ⟨by simp, .inl ⟨dk, _, rfl, run_takeDeferred (Mem.heapObj hs.2 hk), ?_⟩⟩
  exact ⟨.tuple #[], results_none hres _ _ _, x, hφ, by rw [hv], hM _ hw'⟩
theorem WE.retM0 {dk : Nat} (k : Nat) (x : α) (hres : fn.results = #[]) (hD : C.D = [dmark dk]) (hk : m[k]? = some (.obj dk (.deferred (some [])))) (hv : val x = .tuple #[]) (hφ : φ x) (hM : ∀ w, Mem C.w0 (m.set k (.obj dk (.deferred none)) ++ C.m0) w → Mem C.w0 (M x ++ C.m0) w) :
    WE C (bpM C.P fn (sp C.w0 C.m0 φ val M)) .ret l m := by
  unfold WE
  intro a w hs
  have hw' : Mem C.w0 (m.set k (.obj dk (.deferred none)) ++ C.m0) (w.putObj dk (.deferred none)) := Mem.putObj hs.2 hk
  show LeavesInM _ _ _ _ _ _ a.defers _ _
  rw [hs.1.d, hD]
  refine ⟨by simp, .inl ⟨dk, _, rfl, run_takeDeferred (Mem.heapObj hs.2 hk), ?_⟩⟩
  exact ⟨.tuple #[], results_none hres _ _ _, x, hφ, by rw [hv], hM _ hw'⟩
theorem WE.retM1 {dk t : Nat} (k : Nat) (x : α) (hres : fn.results = #[.tmp t]) (hD : C.D = [dmark dk]) (hk : m[k]? = some (.obj dk (.deferred (some [])))) (hv : lk t l = some (val x)) (hφ : φ x) (hM : ∀ w, Mem C.w0 (m.set k (.obj dk (.deferred none)) ++ C.m0) w → Mem C.w0 (M x ++ C.m0) w) :
    WE C (bpM C.P fn (sp C.w0 C.m0 φ val M)) .ret l m := by
  unfold WE
  intro a w hs
  have hw' : Mem C.w0 (m.set k (.obj dk (.deferred none)) ++ C.m0) (w.putObj dk (.deferred none)) := Mem.putObj hs.2 hk
  show LeavesInM _ _ _ _ _ _ a.defers _ _
  rw [hs.1.d, hD]
  refine ⟨by simp, .inl ⟨dk, _, rfl, run_takeDeferred (Mem.heapObj hs.2 hk), ?_⟩⟩
  exact ⟨val x, by rw [results_tmp hres, hs.1.at_ t _ hv], x, hφ, rfl, hM _ hw'⟩
end
theorem str_beq (s s' : ByteArray) : (s.toList == s'.toList) = decide (s = s') := by
  by_cases hs : s = s'
  · subst hs; simp
  · have : s.toList ≠ s'.toList := fun he => hs (by
      have e1 := congrArg List.toArray he
      cases s; cases s'
      simp_all [ByteArray.toList_eq])
    simp [hs, this]
section
variable {C : Cx} {Q : Po} {l : List (Nat × Value)} {m : List Res} {ops : Array Oper} {rest : List Oper} {ty : TypeId} {pos : String} {af : Array Edge} {g : Option (Nat × Bool)} {b : Bool} {d : Nat} {x y : Operand} {t t' : TypeId} {k : IntKind} {p q : Int}
theorem r_geD (hx : opv l x = some (.int k p)) (hy : opv l y = some (.int k q)) (h : okk ops l g d C.n = true) (c : WX b C Q ops rest ((d, .bool (decide (p ≥ q))) :: l) m) : WX b C Q ops (⟨some d, .binOp .geq t x y t', ty, pos, af, g⟩ :: rest) l m := by
  by_cases hc : p ≥ q
  · rw [decide_eq_true hc] at c
    exact r_geT hx hy h hc c
  · rw [decide_eq_false hc] at c
    exact r_geF hx hy h hc c
theorem r_sne {s s' : ByteArray} (hx : opv l x = some (.string s)) (hy : opv l y = some (.string s')) (hgd : ∀ w, (eqGuard .neq t x y (.string s) (.string s')).run C.P w = .ok () w) (h : okk ops l g d C.n = true) (c : WX b C Q ops rest ((d, .bool (!decide (s = s'))) :: l) m) :
    WX b C Q ops (⟨some d, .binOp .neq t x y t', ty, pos, af, g⟩ :: rest) l m :=
  r_bk (.bool (!decide (s = s'))) hx hy (fun w => by simp [hgd w, binOp_string_neq, str_beq]) h c
end
theorem Ct.perm {α : Type} {P : Program} {f : FuncId} {args : List Value} {w0 : World} {m m1 m2 m0 : List Res} {φ : α → Prop} {val : α → Value} {M M' : α → List Res} (h : Ct P f args w0 m1 (m2 ++ m0) φ val M) (hM : ∀ w, Mem w0 (m ++ m0) w → Mem w0 ((m1 ++ m2) ++ m0) w)
    (hM' : ∀ x w, Mem w0 ((M x ++ m2) ++ m0) w → Mem w0 (M' x ++ m0) w) : Ct P f args w0 m m0 φ val M' := by
  unfold Ct at h ⊢
  refine ⟨h.1, fun w hw => (h.2 w (by rw [← List.append_assoc]; exact hM w hw)).mono ?_⟩
  rintro e w' ⟨x, hx, he, hm⟩
  exact ⟨x, hx, he, hM' x w' (by rw [List.append_assoc]; exact hm)⟩
theorem Mem.rot2 {w0 : World} {r1 r2 : Res} {J m0 : List Res} : ∀ w, Mem w0 ((r1 :: r2 :: J) ++ m0) w → Mem w0 ((J ++ [r1, r2]) ++ m0) w := fun w h => by
  have := Mem.rot w (Mem.rot w h)
  simpa [List.append_assoc] using this
theorem Mem.unrot2 {w0 : World} {r1 r2 : Res} {J m0 : List Res} : ∀ w, Mem w0 ((J ++ [r1, r2]) ++ m0) w → Mem w0 ((r1 :: r2 :: J) ++ m0) w := fun w h => by
  refine Mem.unrot w (Mem.unrot w ?_)
  simpa [List.append_assoc] using h
end Go.Gp
namespace Go.Proofs.YtkggplnigjlegaaGreatDoor
open Go.RowKit Go.Gp

abbrev twoB : ByteArray := ⟨#[47, 47]⟩
/-- Is a line's word none, or a remark? -/
def blankW (w : ByteArray) : Bool := decide (w = ⟨#[]⟩) || preB w twoB
def wordsL (ls : List ByteArray) : List ByteArray := (ls.map wordS).filter (fun w => !blankW w)
def wordsP (s : ByteArray) : List ByteArray := wordsL (splitS 10 s)
theorem wordsL_cons (x : ByteArray) (r : List ByteArray) : wordsL (x :: r) = if blankW (wordS x) = true then wordsL r else wordS x :: wordsL r := by
  unfold wordsL
  rw [List.map_cons, List.filter_cons]
  cases blankW (wordS x) <;> simp
theorem wordL_low (l : List UInt8) : wordL l = if lowL l < 0 then l else l.take (lowL l).toNat := by
  induction l with
  | nil => rfl
  | cons x r ih =>
    have hb := lowL_bd r
    unfold wordL at ih ⊢
    rw [List.takeWhile_cons, lowL]
    by_cases hx : x.toNat ≤ 32
    · rw [if_neg (by simpa using hx), if_pos hx]
      rfl
    · rw [if_pos (by simp; omega), if_neg hx, ih]
      by_cases hr : lowL r = -1
      · rw [if_pos hr, hr]
        rfl
      · rw [if_neg hr, if_neg (by omega), if_neg (by omega), show (lowL r + 1).toNat = (lowL r).toNat + 1 by omega]
        rfl
theorem wordS_ext (s : ByteArray) : wordS s = if lowL s.data.toList < 0 then s else s.extract 0 (lowL s.data.toList).toNat := by
  have hb := lowL_bd s.data.toList
  rw [size_list] at hb
  unfold wordS
  rw [wordL_low]
  split
  · exact strOf_list s
  · rw [ext_take _ _ (by omega)]
theorem _root_.Go.Gp.Mem.pickL {w0 : World} {m J m0 m' : List Res} (is : List Nat) (hnd : is.Nodup) (hm : is.map (m[·]?) = m'.map some) : ∀ w, Mem w0 ((m ++ J) ++ m0) w → Mem w0 ((m' ++ J) ++ m0) w := fun w h => by
  rw [List.append_assoc] at h ⊢
  exact Mem.pick is hnd hm w h
section
variable {σ : Type}
def WJ (J : σ → List Res) (r : Loop) (lp lp2 y : Nat) (x : σ × Bool) : List Res :=
  .obj lp2 (.loop (lrec r (if x.2 = true then some 0 else none))) :: .blk y [.func (.yield lp) #[] #[]] 56 :: J x.1
def WR (R : σ → ByteArray → σ → Bool → Prop) (x : σ × Bool) (l : ByteArray) (x' : σ × Bool) (b : Bool) : Prop :=
  if blankW (wordS l) = true then b = true ∧ x' = x else R x.1 (wordS l) x'.1 b ∧ x'.2 = !b
def WPre (pre : List ByteArray → σ → Prop) (ls : List ByteArray) (x : σ × Bool) : Prop := x.2 = false ∧ pre (wordsL ls) x.1 ∧ ∀ l ∈ ls, l.size ≤ 800000
theorem WR_runs (R : σ → ByteArray → σ → Bool → Prop) : ∀ (ls : List ByteArray) (x t : σ × Bool), Runs (WR R) ls x t → Runs R (wordsL ls) x.1 t.1
  | [], x, t, h => by
    have e : x = t := h
    subst e
    rfl
  | l :: ls, x, t, h => by
    obtain ⟨x', b, hR, h⟩ := h
    unfold WR at hR
    rw [wordsL_cons]
    by_cases hb : blankW (wordS l) = true
    · rw [if_pos hb] at hR ⊢
      obtain ⟨rfl, rfl⟩ := hR
      exact WR_runs R ls x' t (by simpa using h)
    · rw [if_neg hb] at hR ⊢
      refine ⟨x'.1, b, hR.1, ?_⟩
      cases b
      · simp only [Bool.false_eq_true, if_false] at h ⊢
        rw [h]
      · simp only [if_true] at h ⊢
        exact WR_runs R ls x' t h
end
set_option maxRecDepth 100000 in
theorem words1_spec {σ : Type} (lp bs : Nat) (J : σ → List Res) (pre : List ByteArray → σ → Prop) (R : σ → ByteArray → σ → Bool → Prop) (s : ByteArray) (hs : s.size ≤ 800000) (w0 : World) (m0 : List Res) (s0 : σ) (h0 : pre (wordsP s) s0)
    (hpre : ∀ s p ps s', pre (p :: ps) s → R s p s' true → pre ps s')
    (hY : ∀ (t : σ) (p : ByteArray) (ps : List ByteArray) (mm : List Res), pre (p :: ps) t → YCt Tryz.prog lp [.string p] w0 (J t) (mm ++ m0) (fun x : σ × Bool => R t p x.1 x.2) (fun x => .bool x.2) (fun x => J x.1)) :
    Ct (α := σ) Tryz.prog 28 [.func (.yield lp) #[] #[], .pointer (some ⟨bs, 0, none⟩)] w0 (.blk bs [.string s] 9 :: J s0) m0 (fun t => Runs R (wordsP s) s0 t) (fun _ => .tuple #[]) J := by
  refine Ct.ofM Tryz.func28 rfl (by kernel_rfl) rfl ?_
  (refine c_sq fun k15 h15 => c_rg <| r_bx rfl rfl rfl (fun _ => ?_); refine r_nx h15 <| c_sq fun k18 h18 => c_rg <| r_lb 1 Tryz.underlying9 rfl rfl rfl rfl rfl ?_; rotate_left)
  rename_i y
  refine WX.call (m1 := []) (m2 := _) rfl rfl rfl (SplitSeq_spec s 10 _ _) rfl rfl (fun p _ => ?_)
  (refine r_nx h18 <| c_bl ?_; rotate_left)
  refine WC.range rfl (fun dk lp2 r hr1 hr2 hr3 hr4 hr5 hsl => ?_)
  have hpost : ∀ x : σ × Bool, ∀ w, Mem w0 ((WJ J r lp lp2 y x ++ [.blk bs [.string s] 9, .obj dk (.deferred (some []))]) ++ m0) w → Mem w0 ((.obj lp2 (.loop (lrec r (if x.2 = true then some 0 else none))) :: .blk bs [.string s] 9 :: .obj dk (.deferred (some [])) :: .blk y [.func (.yield lp) #[] #[]] 56 :: J x.1) ++ m0) w := fun x w hw =>
    Mem.pickL (m := [.blk bs [.string s] 9, .obj dk (.deferred (some [])), .obj lp2 (.loop (lrec r (if x.2 = true then some 0 else none))), .blk y [.func (.yield lp) #[] #[]] 56]) (J := J x.1) (m' := [.obj lp2 (.loop (lrec r (if x.2 = true then some 0 else none))), .blk bs [.string s] 9, .obj dk (.deferred (some [])), .blk y [.func (.yield lp) #[] #[]] 56]) [2, 0, 1, 3] (by decide) rfl w (Mem.unrot2 w hw)
  refine ⟨σ × Bool, fun t => Runs (WR R) (splitS 10 s) (s0, false) t, fun _ => .tuple #[], fun x => .obj lp2 (.loop (lrec r (if x.2 = true then some 0 else none))) :: .blk bs [.string s] 9 :: .obj dk (.deferred (some [])) :: .blk y [.func (.yield lp) #[] #[]] 56 :: J x.1, ?_, ?_⟩
  · refine Ct.perm (m1 := .blk p.2.2 [.int .i64 0] 3 :: .blk p.1 [.string ⟨#[10]⟩] 9 :: .blk p.2.1 [.string s] 9 :: WJ J r lp lp2 y (s0, false)) (m2 := [.blk bs [.string s] 9, .obj dk (.deferred (some []))]) ?_ ?_ hpost
    · refine splitSeq1_spec lp2 p.1 p.2.1 p.2.2 (WJ J r lp lp2 y) (WPre pre) (WR R) s 10 hs w0 _ (s0, false) ⟨rfl, h0, fun l hl => by have := (splitS_mem 10 s l hl).1; omega⟩ ?_ ?_
      · rintro x q ps x' ⟨h1, h2, h3⟩ hR
        unfold WR at hR
        rw [wordsL_cons] at h2
        by_cases hb : blankW (wordS q) = true
        · rw [if_pos hb] at hR h2
          obtain ⟨_, rfl⟩ := hR
          exact ⟨h1, h2, fun l hl => h3 l (by simp [hl])⟩
        · rw [if_neg hb] at hR h2
          exact ⟨hR.2, hpre _ _ _ _ h2 hR.1, fun l hl => h3 l (by simp [hl])⟩
      · rintro ⟨t, stopped⟩ q ps mm ⟨h1, h2, h3⟩
        dsimp only at h1 h2
        subst h1
        have hq := h3 q (by simp)
        have hr3' : (lrec r none).params = #[7] := hr3
        refine YCt.of (r := lrec r none) 0 hr3' rfl hsl rfl ?_
        rw [show (lrec r none).assign = _ from hr4, show (lrec r none).body = _ from hr5]
        clear hr4 hr5 hr3 hr3' hsl
        (refine c_rg <| r_as rfl rfl <| r_nl ?_; rotate_left)
        refine WE.begin (r := lrec r none) 0 rfl rfl ?_
        simp only [WJ]
        have hext := wordS_ext q
        have hwr : ∀ x' b, WR R (t, false) q x' b ↔ if blankW (wordS q) = true then b = true ∧ x' = (t, false) else R t (wordS q) x'.1 b ∧ x'.2 = !b := fun _ _ => Iff.rfl
        (refine c_bl ?_)
        refine WC.cut (α := Unit) (fun _ => [(2, .pointer (some ⟨y, 0, none⟩)), (3, .string (wordS q))]) (fun _ => .obj lp2 (.loop { lrec r none with state := .busy }) :: .blk y [.func (.yield lp) #[] #[]] 56 :: J t) (fun _ => True) ?_ ?_
        · have hbd := lowL_bd q.data.toList
          rw [size_list] at hbd
          (refine c_sq fun k45 h45 => c_rg <| r_mv rfl rfl ?_; rotate_left)
          refine WX.pure rfl rfl (IndexFuncS_spec q hq _ _) rfl rfl ?_
          by_cases hlo : lowL q.data.toList < 0
          · rw [if_pos hlo] at hext
            (refine r_as rfl rfl <| r_nx h45 <| c_sq fun k48 h48 => c_rg <| r_mv rfl rfl <| r_geF rfl rfl rfl (by omega) <| r_nx h48 <| c_cF rfl <| c_sk ?_; rotate_left)
            exact WE.met () trivial ⟨rfl, by rw [hext]; rfl, trivial⟩ Mem.keep
          · rw [if_neg hlo] at hext
            (refine r_as rfl rfl <| r_nx h45 <| c_sq fun k48 h48 => c_rg <| r_mv rfl rfl <| r_geT rfl rfl rfl (by omega) <| r_nx h48 <| c_cT rfl <| c_rg <| r_mv rfl rfl <| r_mv rfl rfl ?_; rotate_left)
            refine r_sT Tryz.underlying9 rfl rfl (by omega) (by omega) rfl ?_
            (refine r_as rfl rfl <| r_nl ?_; rotate_left)
            exact WE.met () trivial ⟨rfl, by rw [hext]; rfl, trivial⟩ Mem.keep
        · intro _ _
          rw [wordsL_cons] at h2
          generalize wordS q = W at hwr h2
          clear hext
          (refine c_sq fun k49 h49 => c_rg <| r_mv rfl rfl ?_; rotate_left)
          refine r_sne rfl rfl (fun _ => by kernel_rfl) rfl ?_
          by_cases hW : W = ⟨#[]⟩
          · rw [decide_eq_true hW]
            have hbl : blankW W = true := by unfold blankW; rw [decide_eq_true hW]; rfl
            rw [hbl] at hwr
            (refine r_mv rfl rfl <| r_sk rfl rfl <| r_sk rfl rfl <| r_sk rfl rfl <| r_pF rfl rfl rfl <| r_mv rfl rfl <| r_sk rfl rfl <| r_sk rfl rfl <| r_sk rfl rfl <| r_sk rfl rfl <| r_pF rfl rfl rfl <| r_nx h49 <| c_cF rfl <| c_sk <| WE.blk_n ?_; rotate_left)
            exact WE.round_n 0 ((t, false), true) rfl rfl ((hwr _ _).2 (by rw [if_pos rfl]; exact ⟨rfl, rfl⟩)) Mem.keep
          · rw [decide_eq_false hW]
            (refine r_mv rfl rfl <| r_mv rfl rfl ?_; rotate_left)
            refine WX.pure rfl rfl (hasPrefix_spec W twoB _ _) rfl rfl ?_
            have hbl : blankW W = preB W twoB := by unfold blankW; rw [decide_eq_false hW]; rfl
            rw [hbl] at hwr
            rw [hbl] at h2
            cases hpf : preB W twoB
            · rw [hpf] at hwr
              (refine r_no rfl rfl rfl <| r_pT rfl rfl rfl <| r_mv rfl rfl <| r_lb 1 Tryz.underlying56 rfl rfl rfl rfl rfl <| r_mv rfl rfl ?_; rotate_left)
              rw [hpf, if_neg (by decide)] at h2
              refine WX.mem Mem.rot2 ?_
              refine WX.yield (m1 := J t) (m2 := [.obj lp2 (.loop { lrec r none with state := .busy }), .blk y [.func (.yield lp) #[] #[]] 56]) rfl rfl rfl (by
                have h9 := hY t W _ ([.obj lp2 (.loop { lrec r none with state := .busy }), .blk y [.func (.yield lp) #[] #[]] 56] ++ mm ++ [.blk bs [.string s] 9, .obj dk (.deferred (some []))]) h2
                rw [List.append_assoc, List.append_assoc] at h9
                exact h9) rfl rfl ?_
              rintro ⟨t', bb⟩ hR
              dsimp only at hR ⊢
              refine WX.mem Mem.unrot2 ?_
              cases bb
              · (refine r_no rfl rfl rfl <| r_pT rfl rfl rfl <| r_nx h49 <| c_cT rfl <| c_rt <| WE.blk_r ?_; rotate_left)
                exact WE.round_r 0 ((t', true), false) rfl rfl ((hwr _ _).2 (by rw [if_neg (by decide)]; exact ⟨hR, rfl⟩)) Mem.keep
              · (refine r_no rfl rfl rfl <| r_pT rfl rfl rfl <| r_nx h49 <| c_cF rfl <| c_sk <| WE.blk_n ?_; rotate_left)
                exact WE.round_n 0 ((t', false), true) rfl rfl ((hwr _ _).2 (by rw [if_neg (by decide)]; exact ⟨hR, rfl⟩)) Mem.keep
            · rw [hpf] at hwr
              (refine r_no rfl rfl rfl <| r_pT rfl rfl rfl <| r_mv rfl rfl <| r_sk rfl rfl <| r_sk rfl rfl <| r_sk rfl rfl <| r_sk rfl rfl <| r_pF rfl rfl rfl <| r_nx h49 <| c_cF rfl <| c_sk <| WE.blk_n ?_; rotate_left)
              exact WE.round_n 0 ((t, false), true) rfl rfl ((hwr _ _).2 (by rw [if_pos rfl]; exact ⟨rfl, rfl⟩)) Mem.keep
    · intro w hw
      rw [lrec_none hr1 hr2] at hw
      have h2 := Mem.pickL (m := [.obj lp2 (.loop (lrec r none)), .obj dk (.deferred (some [])), .blk p.2.2 [.int .i64 0] 3, .blk p.1 [.string ⟨#[10]⟩] 9, .blk p.2.1 [.string s] 9, .blk y [.func (.yield lp) #[] #[]] 56, .blk bs [.string s] 9]) (J := J s0) (m' := [.blk bs [.string s] 9, .obj dk (.deferred (some [])), .blk p.2.2 [.int .i64 0] 3, .blk p.1 [.string ⟨#[10]⟩] 9, .blk p.2.1 [.string s] 9, .obj lp2 (.loop (lrec r none)), .blk y [.func (.yield lp) #[] #[]] 56]) [6, 1, 2, 3, 4, 0, 5] (by decide) rfl w hw
      exact Mem.rot2 w h2
  · rintro ⟨t, stopped⟩ ht
    have ht' := WR_runs R _ _ _ ht
    cases stopped
    · refine ⟨lrec r none, 0, rfl, by simp [lrec], fun r'' => .inl ⟨rfl, ?_⟩⟩
      refine WE.blk_n ?_
      exact WE.endM0 2 t rfl rfl rfl rfl ht' (fun w hw => Mem.tail (Mem.tail (Mem.tail (Mem.tail hw))))
    · refine ⟨lrec r (some 0), 0, rfl, by simp [lrec], fun r'' => .inr (.inl ⟨rfl, ?_⟩)⟩
      refine WE.blk_r ?_
      exact WE.retM0 2 t rfl rfl rfl rfl ht' (fun w hw => Mem.tail (Mem.tail (Mem.tail (Mem.tail hw))))
abbrev wordsV (b : Nat) : Value := .func (.func 28) #[] #[.pointer (some ⟨b, 0, none⟩)]
set_option maxRecDepth 100000 in
theorem words_spec (s : ByteArray) (w0 : World) (m0 : List Res) : Ct (α := Nat) Tryz.prog 17 [.string s] w0 [] m0 (fun _ => True) wordsV (fun b => [.blk b [.string s] 9]) := by
  refine Ct.of Tryz.func17 rfl (by kernel_rfl) rfl ?_
  (refine c_sq fun k4 h4 => c_rg <| r_bx rfl rfl rfl (fun _ => ?_); refine r_as rfl rfl <| r_nx h4 <| c_sq fun k7 h7 => c_rg <| r_fn rfl rfl <| r_as rfl rfl <| r_nx h7 <| c_rt ?_; rotate_left)
  rename_i b
  exact WE.ret1 b rfl rfl rfl trivial Mem.keep
end Go.Proofs.YtkggplnigjlegaaGreatDoor

/- utf.first, utf.next, utf.Decode: the walks. -/
set_option linter.unusedVariables false
set_option linter.unusedSimpArgs false
namespace Go.Gp
open Go.RowKit
section
variable {C : Cx} {Q : Po} {l : List (Nat × Value)} {m : List Res} {ops : Array Oper} {rest tail : List Oper} {d : Nat} {ty : TypeId} {pos : String} {af : Array Edge} {g : Option (Nat × Bool)} {b : Bool} {t t' : TypeId} {x y : Operand} {u v : Value}
/-- The address of an array's element. -/
theorem Qv.arrAddr {dd : Option Nat} {n e bb o sz o' : Nat} {k : IntKind} {i : Int} (ht : C.P.underlying t = some (.array n e)) (he : (C.P.info? e).map (·.size) = some sz) (hx : opv l x = some (.pointer (some ⟨bb, o, none⟩))) (hy : opv l y = some (.int k i)) (h0 : 0 ≤ i) (h1 : i < n) (ho : o + i.toNat * sz = o') :
    Qv C l m ⟨dd, .indexAddr t x y, ty, pos, af, g⟩ (.pointer (some ⟨bb, o', none⟩)) := fun ev hev w _ => by
  cases hq : C.P.info? e with
  | none => simp [hq] at he
  | some inf =>
    have hs : inf.size = sz := by simpa [hq] using he
    have ha : (⟨bb, o, none⟩ : Addr).add (i.toNat * sz) = ⟨bb, o', none⟩ := by rw [addr_add2, ho]
    simp [execOp, hev x _ hx, hev y _ hy, Instr.indexAt, asIntOf, Instr.sureAddr, run_underlying ht, h0, h1, sizeOf, typeInfo, hq, hs, ha]
theorem r_ai (o' : Nat) {n e bb o sz : Nat} {k : IntKind} {i : Int} (ht : C.P.underlying t = some (.array n e)) (he : (C.P.info? e).map (·.size) = some sz) (hx : opv l x = some (.pointer (some ⟨bb, o, none⟩))) (hy : opv l y = some (.int k i)) (h : okk ops l g d C.n = true) (h0 : 0 ≤ i) (h1 : i < n) (ho : o + i.toNat * sz = o') (c : WX b C Q ops rest ((d, .pointer (some ⟨bb, o', none⟩)) :: l) m) :
    WX b C Q ops (⟨some d, .indexAddr t x y, ty, pos, af, g⟩ :: rest) l m := WX.q (Qv.arrAddr ht he hx hy h0 h1 ho) rfl (okk_1 h) (okk_2 h) rfl c
theorem u8_mask (n : Nat) (hn : n = 31 ∨ n = 15 ∨ n = 7 ∨ n = 63) (c : UInt8) {P : Program} (w : World) (t : TypeId) : (binOp .and t (.int .u8 c.toNat) (.int .u8 (n : Int))).run P w = .ok (.int .u8 ((c.toNat : Int) % ((n : Int) + 1))) w := by
  rw [binOp_and]
  show Result.ok (Value.int .u8 (IntKind.u8.wrap ((BitVec.ofInt 8 (c.toNat : Int) &&& BitVec.ofInt 8 (n : Int)).toNat))) w = _
  congr 2
  have key : ∀ i : Fin 256, (IntKind.u8.wrap ((BitVec.ofInt 8 (i.1 : Int) &&& BitVec.ofInt 8 31).toNat) = (i.1 : Int) % 32 ∧ IntKind.u8.wrap ((BitVec.ofInt 8 (i.1 : Int) &&& BitVec.ofInt 8 15).toNat) = (i.1 : Int) % 16) ∧ (IntKind.u8.wrap ((BitVec.ofInt 8 (i.1 : Int) &&& BitVec.ofInt 8 7).toNat) = (i.1 : Int) % 8 ∧ IntKind.u8.wrap ((BitVec.ofInt 8 (i.1 : Int) &&& BitVec.ofInt 8 63).toNat) = (i.1 : Int) % 64) := by decide +kernel
  have := key ⟨c.toNat, c.toNat_lt⟩
  simp only at this
  rcases hn with rfl | rfl | rfl | rfl
  · exact this.1.1
  · exact this.1.2
  · exact this.2.1
  · exact this.2.2
theorem shl6_run {P : Program} (c : Int) (h0 : 0 ≤ c) (h : c ≤ 1000000) (w : World) (t : TypeId) : (binOp .shl t (.int .i32 c) (.int .u64 6)).run P w = .ok (.int .i32 (c * 64)) w := by
  rw [binOp_shl]
  unfold Op.shift
  rw [if_neg (by decide)]
  show Result.ok (Value.int .i32 (IntKind.i32.wrap (c * 64))) w = _
  rw [IntWalk.i32_in _ (by omega)]
theorem or6_run {P : Program} (c x : Int) (h0 : 0 ≤ c) (h : c ≤ 1000000) (hx : 0 ≤ x) (hx2 : x < 64) (w : World) (t : TypeId) : (binOp .or t (.int .i32 (c * 64)) (.int .i32 x)).run P w = .ok (.int .i32 (c * 64 + x)) w := by
  rw [binOp_or]
  obtain ⟨n, rfl⟩ := Int.eq_ofNat_of_zero_le h0
  obtain ⟨k, rfl⟩ := Int.eq_ofNat_of_zero_le hx
  show Result.ok (Value.int .i32 (IntKind.i32.wrap ((BitVec.ofInt 32 ((n : Int) * 64) ||| BitVec.ofInt 32 (k : Int)).toNat))) w = _
  have e1 : (n : Int) * 64 = ((n * 64 : Nat) : Int) := by simp
  have hn : n * 64 < 2 ^ 32 := by omega
  have hk : k < 2 ^ 32 := by omega
  have e2 : (n * 64) ||| k = n * 64 + k := by
    have := Nat.two_pow_add_eq_or_of_lt (i := 6) (b := k) (by omega) n
    rw [Nat.mul_comm] at this
    exact this.symm
  rw [e1, BitVec.toNat_or, BitVec.ofInt_natCast, BitVec.ofInt_natCast, BitVec.toNat_ofNat, BitVec.toNat_ofNat, Nat.mod_eq_of_lt hn, Nat.mod_eq_of_lt hk, e2, IntWalk.i32_in _ (by omega)]
  simp
end
section
variable {α : Type} {C : Cx} {l : List (Nat × Value)} {m : List Res} {fn : Func} {φ : α → Prop} {val : α → Value} {M : α → List Res}
/-- Two results, and a struct's or an array's block as the third. -/
theorem WE.ret2c {t u p i : Nat} {ty e : TypeId} {dd : TypeDesc} {b : Nat} {cs : List Value} {v1 v2 : Value} (x : α) (hres : fn.results = #[.tmp t, .tmp u, .cell p ty]) (hD : C.D = []) (ht : C.P.underlying ty = some dd) (h1 : oneTy dd = false) (hz : (C.P.info? ty).map (·.size) = some cs.length)
    (g1 : lk t l = some v1) (g2 : lk u l = some v2) (hp : lk p l = some (.pointer (some ⟨b, 0, none⟩))) (hi : m[i]? = some (.blk b cs e)) (hv : val x = .tuple #[v1, v2, .agg cs.toArray]) (hφ : φ x) (hM : ∀ w, Mem C.w0 (m ++ C.m0) w → Mem C.w0 (M x ++ C.m0) w) :
    WE C (bodyPost C.P fn (sp C.w0 C.m0 φ val M)) .ret l m := by
  unfold WE
  intro a w hs
  have h := (Mem.appL hs.2).all i _ hi
  have hr := run_loadVar_row (P := C.P) w b e ty cs.toArray (0, 0) dd h.2 ht (by cases dd <;> simp_all [oneTy]) (by simpa using hz)
  refine ⟨by rw [hs.1.d, hD], val x, ?_, x, hφ, rfl, hM w hs.2⟩
  have e1 := hs.1.at_ t _ g1
  have e2 := hs.1.at_ u _ g2
  have e3 := hs.1.at_ p _ hp
  simp only [Array.getD_eq_getD_getElem?] at e1 e2 e3
  simp [results, hres, e1, e2, e3, hv, asAddr, hr]
end
end Go.Gp
namespace Go.Proofs.YtkggplnigjlegaaGreatDoor
open Go.RowKit Go.Gp

/-- What a first byte says. -/
structure F2 where
  more : Int
  own : Int
  lo : Int
  hi : Int
def fstP (c : Nat) : F2 :=
  if 194 ≤ c ∧ c ≤ 223 then ⟨1, (c : Int) % 32, 128, 191⟩ else if c = 224 then ⟨2, 0, 160, 191⟩ else if c = 237 then ⟨2, 13, 128, 159⟩ else if 225 ≤ c ∧ c ≤ 239 then ⟨2, (c : Int) % 16, 128, 191⟩
  else if c = 240 then ⟨3, 0, 144, 191⟩ else if 241 ≤ c ∧ c ≤ 243 then ⟨3, (c : Int) % 8, 128, 191⟩ else if c = 244 then ⟨3, 4, 128, 143⟩ else ⟨-1, 65533, 128, 191⟩
def fstV (f : F2) : Value := .tuple #[.int .i64 f.more, .int .i32 f.own, .agg #[.int .u8 f.lo, .int .u8 f.hi]]
set_option maxRecDepth 100000 in
theorem first_spec (c : UInt8) (w0 : World) (m0 : List Res) : PureC Tryz.prog 65 [.int .u8 c.toNat] w0 m0 (fstV (fstP c.toNat)) := by
  have h256 := c.toNat_lt
  refine Ct.of Tryz.func65 rfl (by kernel_rfl) rfl ?_
  by_cases h1 : 194 ≤ c.toNat ∧ c.toNat ≤ 223
  · have e : fstP c.toNat = ⟨1, (c.toNat : Int) % 32, 128, 191⟩ := by unfold fstP; rw [if_pos h1]
    (refine c_sq fun k7 h7 => c_rg <| r_as rfl rfl <| r_as rfl rfl <| r_al (z := .agg #[.int .u8 0, .int .u8 0]) (cs := [.int .u8 0, .int .u8 0]) (fun _ => by kernel_rfl) rfl rfl (fun _ => ?_); refine r_nx h7 <| c_sq fun k10 h10 => c_rg <| r_bd rfl (fun _ => by kernel_rfl) rfl <| r_al (z := .agg #[.int .u8 0, .int .u8 0]) (cs := [.int .u8 0, .int .u8 0]) (fun _ => by kernel_rfl) rfl rfl (fun _ => ?_); refine r_sa 0 (by kernel_rfl) rfl rfl rfl rfl rfl rfl rfl <| r_nx h10 <| c_sq fun k13 h13 => c_bl <| c_sq fun k15 h15 => c_rg <| r_mv rfl rfl <| r_geT rfl rfl rfl (by omega) <| r_mv rfl rfl <| r_mv rfl rfl <| r_leT rfl rfl rfl (by omega) <| r_pT rfl rfl rfl <| r_as rfl rfl <| r_nx h15 <| c_cT rfl <| c_sq fun k17 h17 => WC.stail 6 rfl (by kernel_rfl) (by kernel_rfl) <| s_mv rfl rfl ?_; rotate_left)
    refine s_bi (s := .int .u8 ((c.toNat : Int) % 32)) rfl rfl (fun _ _ => eqGuard_at_int ..) (fun w _ => u8_mask 31 (by decide) c w _) rfl ?_
    (refine s_cv rfl (cv_int (k' := .i32) rfl Tryz.underlying21 (w32 (by omega))) rfl <| s_la 0 Tryz.underlying96 rfl (by kernel_rfl) rfl rfl rfl <| s_as rfl rfl <| s_as rfl rfl <| s_nil <| t_sa 1 (by kernel_rfl) rfl rfl rfl rfl rfl rfl rfl <| t_nx h17 <| c_rt <| WE.blk_r <| WE.then_r ?_; rotate_left)
    exact WE.ret2c (i := 1) () rfl rfl Tryz.underlying96 rfl (by kernel_rfl) rfl rfl rfl rfl (by rw [e]; rfl) trivial Mem.drop
  · by_cases h2 : c.toNat = 224
    · have e : fstP c.toNat = ⟨2, 0, 160, 191⟩ := by unfold fstP; rw [if_neg h1, if_pos h2]
      (refine c_sq fun k8 h8 => c_rg <| r_as rfl rfl <| r_as rfl rfl <| r_al (z := .agg #[.int .u8 0, .int .u8 0]) (cs := [.int .u8 0, .int .u8 0]) (fun _ => by kernel_rfl) rfl rfl (fun _ => ?_); refine r_nx h8 <| c_sq fun k11 h11 => c_rg <| r_bd rfl (fun _ => by kernel_rfl) rfl <| r_al (z := .agg #[.int .u8 0, .int .u8 0]) (cs := [.int .u8 0, .int .u8 0]) (fun _ => by kernel_rfl) rfl rfl (fun _ => ?_); refine r_sa 0 (by kernel_rfl) rfl rfl rfl rfl rfl rfl rfl <| r_nx h11 <| c_sq fun k14 h14 => c_bl <| c_sq fun k16 h16 => c_rg <| r_mv rfl rfl <| r_geT rfl rfl rfl (by omega) <| r_mv rfl rfl <| r_mv rfl rfl <| r_leF rfl rfl rfl (by omega) <| r_pT rfl rfl rfl <| r_as rfl rfl <| r_nx h16 <| c_cF rfl <| c_sq fun k18 h18 => c_rg <| r_mv rfl rfl <| r_eqT rfl rfl rfl (by omega) <| r_as rfl rfl <| r_nx h18 <| c_cT rfl <| c_sq fun k20 h20 => c_rg <| r_bd rfl (fun _ => by kernel_rfl) rfl <| r_as rfl rfl <| r_as rfl rfl <| r_sa 1 (by kernel_rfl) rfl rfl rfl rfl rfl rfl rfl <| r_nx h20 <| c_rt <| WE.blk_r <| WE.then_r ?_; rotate_left)
      exact WE.ret2c (i := 1) () rfl rfl Tryz.underlying96 rfl (by kernel_rfl) rfl rfl rfl rfl (by rw [e]; rfl) trivial Mem.drop
    · by_cases h3 : c.toNat = 237
      · have e : fstP c.toNat = ⟨2, 13, 128, 159⟩ := by unfold fstP; rw [if_neg h1, if_neg h2, if_pos h3]
        (refine c_sq fun k9 h9 => c_rg <| r_as rfl rfl <| r_as rfl rfl <| r_al (z := .agg #[.int .u8 0, .int .u8 0]) (cs := [.int .u8 0, .int .u8 0]) (fun _ => by kernel_rfl) rfl rfl (fun _ => ?_); refine r_nx h9 <| c_sq fun k12 h12 => c_rg <| r_bd rfl (fun _ => by kernel_rfl) rfl <| r_al (z := .agg #[.int .u8 0, .int .u8 0]) (cs := [.int .u8 0, .int .u8 0]) (fun _ => by kernel_rfl) rfl rfl (fun _ => ?_); refine r_sa 0 (by kernel_rfl) rfl rfl rfl rfl rfl rfl rfl <| r_nx h12 <| c_sq fun k15 h15 => c_bl <| c_sq fun k17 h17 => c_rg <| r_mv rfl rfl <| r_geT rfl rfl rfl (by omega) <| r_mv rfl rfl <| r_mv rfl rfl <| r_leF rfl rfl rfl (by omega) <| r_pT rfl rfl rfl <| r_as rfl rfl <| r_nx h17 <| c_cF rfl <| c_sq fun k19 h19 => c_rg <| r_mv rfl rfl <| r_eqF rfl rfl rfl (by omega) <| r_as rfl rfl <| r_nx h19 <| c_cF rfl <| c_sq fun k21 h21 => c_rg <| r_mv rfl rfl <| r_eqT rfl rfl rfl (by omega) <| r_as rfl rfl <| r_nx h21 <| c_cT rfl <| c_sq fun k23 h23 => c_rg <| r_bd rfl (fun _ => by kernel_rfl) rfl <| r_as rfl rfl <| r_as rfl rfl <| r_sa 1 (by kernel_rfl) rfl rfl rfl rfl rfl rfl rfl <| r_nx h23 <| c_rt <| WE.blk_r <| WE.then_r ?_; rotate_left)
        exact WE.ret2c (i := 1) () rfl rfl Tryz.underlying96 rfl (by kernel_rfl) rfl rfl rfl rfl (by rw [e]; rfl) trivial Mem.drop
      · by_cases h4 : 225 ≤ c.toNat ∧ c.toNat ≤ 239
        · have e : fstP c.toNat = ⟨2, (c.toNat : Int) % 16, 128, 191⟩ := by unfold fstP; rw [if_neg h1, if_neg h2, if_neg h3, if_pos h4]
          (refine c_sq fun k10 h10 => c_rg <| r_as rfl rfl <| r_as rfl rfl <| r_al (z := .agg #[.int .u8 0, .int .u8 0]) (cs := [.int .u8 0, .int .u8 0]) (fun _ => by kernel_rfl) rfl rfl (fun _ => ?_); refine r_nx h10 <| c_sq fun k13 h13 => c_rg <| r_bd rfl (fun _ => by kernel_rfl) rfl <| r_al (z := .agg #[.int .u8 0, .int .u8 0]) (cs := [.int .u8 0, .int .u8 0]) (fun _ => by kernel_rfl) rfl rfl (fun _ => ?_); refine r_sa 0 (by kernel_rfl) rfl rfl rfl rfl rfl rfl rfl <| r_nx h13 <| c_sq fun k16 h16 => c_bl <| c_sq fun k18 h18 => c_rg <| r_mv rfl rfl <| r_geT rfl rfl rfl (by omega) <| r_mv rfl rfl <| r_mv rfl rfl <| r_leF rfl rfl rfl (by omega) <| r_pT rfl rfl rfl <| r_as rfl rfl <| r_nx h18 <| c_cF rfl <| c_sq fun k20 h20 => c_rg <| r_mv rfl rfl <| r_eqF rfl rfl rfl (by omega) <| r_as rfl rfl <| r_nx h20 <| c_cF rfl <| c_sq fun k22 h22 => c_rg <| r_mv rfl rfl <| r_eqF rfl rfl rfl (by omega) <| r_as rfl rfl <| r_nx h22 <| c_cF rfl <| c_sq fun k24 h24 => c_rg <| r_mv rfl rfl <| r_geT rfl rfl rfl (by omega) <| r_mv rfl rfl <| r_mv rfl rfl <| r_leT rfl rfl rfl (by omega) <| r_pT rfl rfl rfl <| r_as rfl rfl <| r_nx h24 <| c_cT rfl <| c_sq fun k26 h26 => WC.stail 6 rfl (by kernel_rfl) (by kernel_rfl) <| s_mv rfl rfl ?_; rotate_left)
          refine s_bi (s := .int .u8 ((c.toNat : Int) % 16)) rfl rfl (fun _ _ => eqGuard_at_int ..) (fun w _ => u8_mask 15 (by decide) c w _) rfl ?_
          (refine s_cv rfl (cv_int (k' := .i32) rfl Tryz.underlying21 (w32 (by omega))) rfl <| s_la 0 Tryz.underlying96 rfl (by kernel_rfl) rfl rfl rfl <| s_as rfl rfl <| s_as rfl rfl <| s_nil <| t_sa 1 (by kernel_rfl) rfl rfl rfl rfl rfl rfl rfl <| t_nx h26 <| c_rt <| WE.blk_r <| WE.then_r ?_; rotate_left)
          exact WE.ret2c (i := 1) () rfl rfl Tryz.underlying96 rfl (by kernel_rfl) rfl rfl rfl rfl (by rw [e]; rfl) trivial Mem.drop
        · by_cases h5 : c.toNat = 240
          · have e : fstP c.toNat = ⟨3, 0, 144, 191⟩ := by unfold fstP; rw [if_neg h1, if_neg h2, if_neg h3, if_neg h4, if_pos h5]
            (refine c_sq fun k11 h11 => c_rg <| r_as rfl rfl <| r_as rfl rfl <| r_al (z := .agg #[.int .u8 0, .int .u8 0]) (cs := [.int .u8 0, .int .u8 0]) (fun _ => by kernel_rfl) rfl rfl (fun _ => ?_); refine r_nx h11 <| c_sq fun k14 h14 => c_rg <| r_bd rfl (fun _ => by kernel_rfl) rfl <| r_al (z := .agg #[.int .u8 0, .int .u8 0]) (cs := [.int .u8 0, .int .u8 0]) (fun _ => by kernel_rfl) rfl rfl (fun _ => ?_); refine r_sa 0 (by kernel_rfl) rfl rfl rfl rfl rfl rfl rfl <| r_nx h14 <| c_sq fun k17 h17 => c_bl <| c_sq fun k19 h19 => c_rg <| r_mv rfl rfl <| r_geT rfl rfl rfl (by omega) <| r_mv rfl rfl <| r_mv rfl rfl <| r_leF rfl rfl rfl (by omega) <| r_pT rfl rfl rfl <| r_as rfl rfl <| r_nx h19 <| c_cF rfl <| c_sq fun k21 h21 => c_rg <| r_mv rfl rfl <| r_eqF rfl rfl rfl (by omega) <| r_as rfl rfl <| r_nx h21 <| c_cF rfl <| c_sq fun k23 h23 => c_rg <| r_mv rfl rfl <| r_eqF rfl rfl rfl (by omega) <| r_as rfl rfl <| r_nx h23 <| c_cF rfl <| c_sq fun k25 h25 => c_rg <| r_mv rfl rfl <| r_geT rfl rfl rfl (by omega) <| r_mv rfl rfl <| r_mv rfl rfl <| r_leF rfl rfl rfl (by omega) <| r_pT rfl rfl rfl <| r_as rfl rfl <| r_nx h25 <| c_cF rfl <| c_sq fun k27 h27 => c_rg <| r_mv rfl rfl <| r_eqT rfl rfl rfl (by omega) <| r_as rfl rfl <| r_nx h27 <| c_cT rfl <| c_sq fun k29 h29 => c_rg <| r_bd rfl (fun _ => by kernel_rfl) rfl <| r_as rfl rfl <| r_as rfl rfl <| r_sa 1 (by kernel_rfl) rfl rfl rfl rfl rfl rfl rfl <| r_nx h29 <| c_rt <| WE.blk_r <| WE.then_r ?_; rotate_left)
            exact WE.ret2c (i := 1) () rfl rfl Tryz.underlying96 rfl (by kernel_rfl) rfl rfl rfl rfl (by rw [e]; rfl) trivial Mem.drop
          · by_cases h6 : 241 ≤ c.toNat ∧ c.toNat ≤ 243
            · have e : fstP c.toNat = ⟨3, (c.toNat : Int) % 8, 128, 191⟩ := by unfold fstP; rw [if_neg h1, if_neg h2, if_neg h3, if_neg h4, if_neg h5, if_pos h6]
              (refine c_sq fun k12 h12 => c_rg <| r_as rfl rfl <| r_as rfl rfl <| r_al (z := .agg #[.int .u8 0, .int .u8 0]) (cs := [.int .u8 0, .int .u8 0]) (fun _ => by kernel_rfl) rfl rfl (fun _ => ?_); refine r_nx h12 <| c_sq fun k15 h15 => c_rg <| r_bd rfl (fun _ => by kernel_rfl) rfl <| r_al (z := .agg #[.int .u8 0, .int .u8 0]) (cs := [.int .u8 0, .int .u8 0]) (fun _ => by kernel_rfl) rfl rfl (fun _ => ?_); refine r_sa 0 (by kernel_rfl) rfl rfl rfl rfl rfl rfl rfl <| r_nx h15 <| c_sq fun k18 h18 => c_bl <| c_sq fun k20 h20 => c_rg <| r_mv rfl rfl <| r_geT rfl rfl rfl (by omega) <| r_mv rfl rfl <| r_mv rfl rfl <| r_leF rfl rfl rfl (by omega) <| r_pT rfl rfl rfl <| r_as rfl rfl <| r_nx h20 <| c_cF rfl <| c_sq fun k22 h22 => c_rg <| r_mv rfl rfl <| r_eqF rfl rfl rfl (by omega) <| r_as rfl rfl <| r_nx h22 <| c_cF rfl <| c_sq fun k24 h24 => c_rg <| r_mv rfl rfl <| r_eqF rfl rfl rfl (by omega) <| r_as rfl rfl <| r_nx h24 <| c_cF rfl <| c_sq fun k26 h26 => c_rg <| r_mv rfl rfl <| r_geT rfl rfl rfl (by omega) <| r_mv rfl rfl <| r_mv rfl rfl <| r_leF rfl rfl rfl (by omega) <| r_pT rfl rfl rfl <| r_as rfl rfl <| r_nx h26 <| c_cF rfl <| c_sq fun k28 h28 => c_rg <| r_mv rfl rfl <| r_eqF rfl rfl rfl (by omega) <| r_as rfl rfl <| r_nx h28 <| c_cF rfl <| c_sq fun k30 h30 => c_rg <| r_mv rfl rfl <| r_geT rfl rfl rfl (by omega) <| r_mv rfl rfl <| r_mv rfl rfl <| r_leT rfl rfl rfl (by omega) <| r_pT rfl rfl rfl <| r_as rfl rfl <| r_nx h30 <| c_cT rfl <| c_sq fun k32 h32 => WC.stail 6 rfl (by kernel_rfl) (by kernel_rfl) <| s_mv rfl rfl ?_; rotate_left)
              refine s_bi (s := .int .u8 ((c.toNat : Int) % 8)) rfl rfl (fun _ _ => eqGuard_at_int ..) (fun w _ => u8_mask 7 (by decide) c w _) rfl ?_
              (refine s_cv rfl (cv_int (k' := .i32) rfl Tryz.underlying21 (w32 (by omega))) rfl <| s_la 0 Tryz.underlying96 rfl (by kernel_rfl) rfl rfl rfl <| s_as rfl rfl <| s_as rfl rfl <| s_nil <| t_sa 1 (by kernel_rfl) rfl rfl rfl rfl rfl rfl rfl <| t_nx h32 <| c_rt <| WE.blk_r <| WE.then_r ?_; rotate_left)
              exact WE.ret2c (i := 1) () rfl rfl Tryz.underlying96 rfl (by kernel_rfl) rfl rfl rfl rfl (by rw [e]; rfl) trivial Mem.drop
            · by_cases h7 : c.toNat = 244
              · have e : fstP c.toNat = ⟨3, 4, 128, 143⟩ := by unfold fstP; rw [if_neg h1, if_neg h2, if_neg h3, if_neg h4, if_neg h5, if_neg h6, if_pos h7]
                (refine c_sq fun k13 h13 => c_rg <| r_as rfl rfl <| r_as rfl rfl <| r_al (z := .agg #[.int .u8 0, .int .u8 0]) (cs := [.int .u8 0, .int .u8 0]) (fun _ => by kernel_rfl) rfl rfl (fun _ => ?_); refine r_nx h13 <| c_sq fun k16 h16 => c_rg <| r_bd rfl (fun _ => by kernel_rfl) rfl <| r_al (z := .agg #[.int .u8 0, .int .u8 0]) (cs := [.int .u8 0, .int .u8 0]) (fun _ => by kernel_rfl) rfl rfl (fun _ => ?_); refine r_sa 0 (by kernel_rfl) rfl rfl rfl rfl rfl rfl rfl <| r_nx h16 <| c_sq fun k19 h19 => c_bl <| c_sq fun k21 h21 => c_rg <| r_mv rfl rfl <| r_geT rfl rfl rfl (by omega) <| r_mv rfl rfl <| r_mv rfl rfl <| r_leF rfl rfl rfl (by omega) <| r_pT rfl rfl rfl <| r_as rfl rfl <| r_nx h21 <| c_cF rfl <| c_sq fun k23 h23 => c_rg <| r_mv rfl rfl <| r_eqF rfl rfl rfl (by omega) <| r_as rfl rfl <| r_nx h23 <| c_cF rfl <| c_sq fun k25 h25 => c_rg <| r_mv rfl rfl <| r_eqF rfl rfl rfl (by omega) <| r_as rfl rfl <| r_nx h25 <| c_cF rfl <| c_sq fun k27 h27 => c_rg <| r_mv rfl rfl <| r_geT rfl rfl rfl (by omega) <| r_mv rfl rfl <| r_mv rfl rfl <| r_leF rfl rfl rfl (by omega) <| r_pT rfl rfl rfl <| r_as rfl rfl <| r_nx h27 <| c_cF rfl <| c_sq fun k29 h29 => c_rg <| r_mv rfl rfl <| r_eqF rfl rfl rfl (by omega) <| r_as rfl rfl <| r_nx h29 <| c_cF rfl <| c_sq fun k31 h31 => c_rg <| r_mv rfl rfl <| r_geT rfl rfl rfl (by omega) <| r_mv rfl rfl <| r_mv rfl rfl <| r_leF rfl rfl rfl (by omega) <| r_pT rfl rfl rfl <| r_as rfl rfl <| r_nx h31 <| c_cF rfl <| c_sq fun k33 h33 => c_rg <| r_mv rfl rfl <| r_eqT rfl rfl rfl (by omega) <| r_as rfl rfl <| r_nx h33 <| c_cT rfl <| c_sq fun k35 h35 => c_rg <| r_bd rfl (fun _ => by kernel_rfl) rfl <| r_as rfl rfl <| r_as rfl rfl <| r_sa 1 (by kernel_rfl) rfl rfl rfl rfl rfl rfl rfl <| r_nx h35 <| c_rt <| WE.blk_r <| WE.then_r ?_; rotate_left)
                exact WE.ret2c (i := 1) () rfl rfl Tryz.underlying96 rfl (by kernel_rfl) rfl rfl rfl rfl (by rw [e]; rfl) trivial Mem.drop
              · have e : fstP c.toNat = ⟨-1, 65533, 128, 191⟩ := by unfold fstP; rw [if_neg h1, if_neg h2, if_neg h3, if_neg h4, if_neg h5, if_neg h6, if_neg h7]
                by_cases h8 : 194 ≤ c.toNat
                · (refine c_sq fun k14 h14 => c_rg <| r_as rfl rfl <| r_as rfl rfl <| r_al (z := .agg #[.int .u8 0, .int .u8 0]) (cs := [.int .u8 0, .int .u8 0]) (fun _ => by kernel_rfl) rfl rfl (fun _ => ?_); refine r_nx h14 <| c_sq fun k17 h17 => c_rg <| r_bd rfl (fun _ => by kernel_rfl) rfl <| r_al (z := .agg #[.int .u8 0, .int .u8 0]) (cs := [.int .u8 0, .int .u8 0]) (fun _ => by kernel_rfl) rfl rfl (fun _ => ?_); refine r_sa 0 (by kernel_rfl) rfl rfl rfl rfl rfl rfl rfl <| r_nx h17 <| c_sq fun k20 h20 => c_bl <| c_sq fun k22 h22 => c_rg <| r_mv rfl rfl <| r_geT rfl rfl rfl (by omega) <| r_mv rfl rfl <| r_mv rfl rfl <| r_leF rfl rfl rfl (by omega) <| r_pT rfl rfl rfl <| r_as rfl rfl <| r_nx h22 <| c_cF rfl <| c_sq fun k24 h24 => c_rg <| r_mv rfl rfl <| r_eqF rfl rfl rfl (by omega) <| r_as rfl rfl <| r_nx h24 <| c_cF rfl <| c_sq fun k26 h26 => c_rg <| r_mv rfl rfl <| r_eqF rfl rfl rfl (by omega) <| r_as rfl rfl <| r_nx h26 <| c_cF rfl <| c_sq fun k28 h28 => c_rg <| r_mv rfl rfl <| r_geT rfl rfl rfl (by omega) <| r_mv rfl rfl <| r_mv rfl rfl <| r_leF rfl rfl rfl (by omega) <| r_pT rfl rfl rfl <| r_as rfl rfl <| r_nx h28 <| c_cF rfl <| c_sq fun k30 h30 => c_rg <| r_mv rfl rfl <| r_eqF rfl rfl rfl (by omega) <| r_as rfl rfl <| r_nx h30 <| c_cF rfl <| c_sq fun k32 h32 => c_rg <| r_mv rfl rfl <| r_geT rfl rfl rfl (by omega) <| r_mv rfl rfl <| r_mv rfl rfl <| r_leF rfl rfl rfl (by omega) <| r_pT rfl rfl rfl <| r_as rfl rfl <| r_nx h32 <| c_cF rfl <| c_sq fun k34 h34 => c_rg <| r_mv rfl rfl <| r_eqF rfl rfl rfl (by omega) <| r_as rfl rfl <| r_nx h34 <| c_cF rfl <| c_sk <| WE.blk_n <| WE.then_n h20 <| c_sq fun k36 h36 => WC.stail 3 rfl (by kernel_rfl) (by kernel_rfl) <| s_la 0 Tryz.underlying96 rfl (by kernel_rfl) rfl rfl rfl <| s_as rfl rfl <| s_as rfl rfl <| s_nil <| t_sa 1 (by kernel_rfl) rfl rfl rfl rfl rfl rfl rfl <| t_nx h36 <| c_rt ?_; rotate_left)
                  exact WE.ret2c (i := 1) () rfl rfl Tryz.underlying96 rfl (by kernel_rfl) rfl rfl rfl rfl (by rw [e]; rfl) trivial Mem.drop
                · (refine c_sq fun k14 h14 => c_rg <| r_as rfl rfl <| r_as rfl rfl <| r_al (z := .agg #[.int .u8 0, .int .u8 0]) (cs := [.int .u8 0, .int .u8 0]) (fun _ => by kernel_rfl) rfl rfl (fun _ => ?_); refine r_nx h14 <| c_sq fun k17 h17 => c_rg <| r_bd rfl (fun _ => by kernel_rfl) rfl <| r_al (z := .agg #[.int .u8 0, .int .u8 0]) (cs := [.int .u8 0, .int .u8 0]) (fun _ => by kernel_rfl) rfl rfl (fun _ => ?_); refine r_sa 0 (by kernel_rfl) rfl rfl rfl rfl rfl rfl rfl <| r_nx h17 <| c_sq fun k20 h20 => c_bl <| c_sq fun k22 h22 => c_rg <| r_mv rfl rfl <| r_geF rfl rfl rfl (by omega) <| r_mv rfl rfl <| r_sk rfl rfl <| r_sk rfl rfl <| r_pF rfl rfl rfl <| r_as rfl rfl <| r_nx h22 <| c_cF rfl <| c_sq fun k24 h24 => c_rg <| r_mv rfl rfl <| r_eqF rfl rfl rfl (by omega) <| r_as rfl rfl <| r_nx h24 <| c_cF rfl <| c_sq fun k26 h26 => c_rg <| r_mv rfl rfl <| r_eqF rfl rfl rfl (by omega) <| r_as rfl rfl <| r_nx h26 <| c_cF rfl <| c_sq fun k28 h28 => c_rg <| r_mv rfl rfl <| r_geF rfl rfl rfl (by omega) <| r_mv rfl rfl <| r_sk rfl rfl <| r_sk rfl rfl <| r_pF rfl rfl rfl <| r_as rfl rfl <| r_nx h28 <| c_cF rfl <| c_sq fun k30 h30 => c_rg <| r_mv rfl rfl <| r_eqF rfl rfl rfl (by omega) <| r_as rfl rfl <| r_nx h30 <| c_cF rfl <| c_sq fun k32 h32 => c_rg <| r_mv rfl rfl <| r_geF rfl rfl rfl (by omega) <| r_mv rfl rfl <| r_sk rfl rfl <| r_sk rfl rfl <| r_pF rfl rfl rfl <| r_as rfl rfl <| r_nx h32 <| c_cF rfl <| c_sq fun k34 h34 => c_rg <| r_mv rfl rfl <| r_eqF rfl rfl rfl (by omega) <| r_as rfl rfl <| r_nx h34 <| c_cF rfl <| c_sk <| WE.blk_n <| WE.then_n h20 <| c_sq fun k36 h36 => WC.stail 3 rfl (by kernel_rfl) (by kernel_rfl) <| s_la 0 Tryz.underlying96 rfl (by kernel_rfl) rfl rfl rfl <| s_as rfl rfl <| s_as rfl rfl <| s_nil <| t_sa 1 (by kernel_rfl) rfl rfl rfl rfl rfl rfl rfl <| t_nx h36 <| c_rt ?_; rotate_left)
                  exact WE.ret2c (i := 1) () rfl rfl Tryz.underlying96 rfl (by kernel_rfl) rfl rfl rfl rfl (by rw [e]; rfl) trivial Mem.drop
/-- May the byte at a place be? -/
def inP (s : ByteArray) (i : Nat) (lo hi : Int) : Bool := decide (i < s.size) && decide (lo ≤ ((s.data.toList.getD i 0).toNat : Int)) && decide (((s.data.toList.getD i 0).toNat : Int) ≤ hi)
set_option maxRecDepth 100000 in
theorem in_spec (s : ByteArray) (i : Nat) (lo hi : Int) (b1 b6 : Nat) (hs : s.size ≤ 1000000000) (w0 : World) (m0 : List Res) (h1 : Rd w0 m0 (some ⟨b1, 0, none⟩) [.string s]) (h6 : Rd w0 m0 (some ⟨b6, 0, none⟩) [.int .u8 lo, .int .u8 hi]) :
    PureC Tryz.prog 66 [.int .i64 i, .pointer (some ⟨b1, 0, none⟩), .pointer (some ⟨b6, 0, none⟩)] w0 m0 (.bool (inP s i lo hi)) := by
  have hv : inP s i lo hi = (decide (i < s.size) && decide (lo ≤ ((s.data.toList.getD i 0).toNat : Int)) && decide (((s.data.toList.getD i 0).toNat : Int) ≤ hi)) := rfl
  refine Ct.of Tryz.func66 rfl (by kernel_rfl) rfl ?_
  by_cases hi1 : i < s.size
  · have hb := byte_at s hi1
    generalize s.data.toList.getD i 0 = c at hb hv
    rw [decide_eq_true hi1, Bool.true_and] at hv
    by_cases h2 : lo ≤ (c.toNat : Int)
    · rw [decide_eq_true h2, Bool.true_and] at hv
      by_cases h3 : (c.toNat : Int) ≤ hi
      · rw [decide_eq_true h3] at hv
        (refine c_sq fun k24 h24 => c_rg <| r_as rfl rfl <| r_nx h24 <| c_sq fun k26 h26 => c_dr rfl (by kernel_rfl) (by kernel_rfl) <| r_mv rfl rfl <| r_lr (A := some ⟨_, 0, none⟩) (i := 0) Tryz.underlying9 rfl rfl rfl (h1.app _) rfl <| r_lS Tryz.underlying9 rfl rfl <| r_ltT rfl rfl rfl (by omega) <| r_mv rfl rfl <| r_lr (A := some ⟨_, 0, none⟩) (i := 0) Tryz.underlying9 rfl rfl rfl (h1.app _) rfl <| r_mv rfl rfl ?_; rotate_left)
        refine r_iS (v := c) Tryz.underlying9 rfl rfl rfl (by omega) (by simpa using hb) ?_
        (refine r_ai (sz := 1) 0 Tryz.underlying96 (by kernel_rfl) rfl rfl rfl (by decide) (by decide) rfl <| r_lr (A := some ⟨_, 0, none⟩) (i := 0) Tryz.underlying5 rfl rfl rfl (h6.app _) rfl <| r_geT rfl rfl rfl (by omega) <| r_pT rfl rfl rfl <| r_mv rfl rfl <| r_lr (A := some ⟨_, 0, none⟩) (i := 0) Tryz.underlying9 rfl rfl rfl (h1.app _) rfl <| r_mv rfl rfl ?_; rotate_left)
        refine r_iS (v := c) Tryz.underlying9 rfl rfl rfl (by omega) (by simpa using hb) ?_
        (refine r_ai (sz := 1) 1 Tryz.underlying96 (by kernel_rfl) rfl rfl rfl (by decide) (by decide) rfl <| r_lr (A := some ⟨_, 0, none⟩) (i := 1) Tryz.underlying5 rfl rfl rfl (h6.app _) rfl <| r_leT rfl rfl rfl (by omega) <| r_pT rfl rfl rfl <| r_as rfl rfl <| r_nx h26 <| c_rt ?_; rotate_left)
        exact WE.ret1 () rfl rfl (by rw [hv]; rfl) trivial Mem.drop
      · rw [decide_eq_false h3] at hv
        (refine c_sq fun k24 h24 => c_rg <| r_as rfl rfl <| r_nx h24 <| c_sq fun k26 h26 => c_dr rfl (by kernel_rfl) (by kernel_rfl) <| r_mv rfl rfl <| r_lr (A := some ⟨_, 0, none⟩) (i := 0) Tryz.underlying9 rfl rfl rfl (h1.app _) rfl <| r_lS Tryz.underlying9 rfl rfl <| r_ltT rfl rfl rfl (by omega) <| r_mv rfl rfl <| r_lr (A := some ⟨_, 0, none⟩) (i := 0) Tryz.underlying9 rfl rfl rfl (h1.app _) rfl <| r_mv rfl rfl ?_; rotate_left)
        refine r_iS (v := c) Tryz.underlying9 rfl rfl rfl (by omega) (by simpa using hb) ?_
        (refine r_ai (sz := 1) 0 Tryz.underlying96 (by kernel_rfl) rfl rfl rfl (by decide) (by decide) rfl <| r_lr (A := some ⟨_, 0, none⟩) (i := 0) Tryz.underlying5 rfl rfl rfl (h6.app _) rfl <| r_geT rfl rfl rfl (by omega) <| r_pT rfl rfl rfl <| r_mv rfl rfl <| r_lr (A := some ⟨_, 0, none⟩) (i := 0) Tryz.underlying9 rfl rfl rfl (h1.app _) rfl <| r_mv rfl rfl ?_; rotate_left)
        refine r_iS (v := c) Tryz.underlying9 rfl rfl rfl (by omega) (by simpa using hb) ?_
        (refine r_ai (sz := 1) 1 Tryz.underlying96 (by kernel_rfl) rfl rfl rfl (by decide) (by decide) rfl <| r_lr (A := some ⟨_, 0, none⟩) (i := 1) Tryz.underlying5 rfl rfl rfl (h6.app _) rfl <| r_leF rfl rfl rfl (by omega) <| r_pT rfl rfl rfl <| r_as rfl rfl <| r_nx h26 <| c_rt ?_; rotate_left)
        exact WE.ret1 () rfl rfl (by rw [hv]; rfl) trivial Mem.drop
    · rw [decide_eq_false h2, Bool.false_and] at hv
      (refine c_sq fun k22 h22 => c_rg <| r_as rfl rfl <| r_nx h22 <| c_sq fun k24 h24 => c_dr rfl (by kernel_rfl) (by kernel_rfl) <| r_mv rfl rfl <| r_lr (A := some ⟨_, 0, none⟩) (i := 0) Tryz.underlying9 rfl rfl rfl (h1.app _) rfl <| r_lS Tryz.underlying9 rfl rfl <| r_ltT rfl rfl rfl (by omega) <| r_mv rfl rfl <| r_lr (A := some ⟨_, 0, none⟩) (i := 0) Tryz.underlying9 rfl rfl rfl (h1.app _) rfl <| r_mv rfl rfl ?_; rotate_left)
      refine r_iS (v := c) Tryz.underlying9 rfl rfl rfl (by omega) (by simpa using hb) ?_
      (refine r_ai (sz := 1) 0 Tryz.underlying96 (by kernel_rfl) rfl rfl rfl (by decide) (by decide) rfl <| r_lr (A := some ⟨_, 0, none⟩) (i := 0) Tryz.underlying5 rfl rfl rfl (h6.app _) rfl <| r_geF rfl rfl rfl (by omega) <| r_pT rfl rfl rfl <| r_mv rfl rfl <| r_sk rfl rfl <| r_sk rfl rfl <| r_sk rfl rfl <| r_sk rfl rfl <| r_sk rfl rfl <| r_sk rfl rfl <| r_pF rfl rfl rfl <| r_as rfl rfl <| r_nx h24 <| c_rt ?_; rotate_left)
      exact WE.ret1 () rfl rfl (by rw [hv]; rfl) trivial Mem.drop
  · rw [decide_eq_false hi1, Bool.false_and, Bool.false_and] at hv
    (refine c_sq fun k17 h17 => c_rg <| r_as rfl rfl <| r_nx h17 <| c_sq fun k19 h19 => c_dr rfl (by kernel_rfl) (by kernel_rfl) <| r_mv rfl rfl <| r_lr (A := some ⟨_, 0, none⟩) (i := 0) Tryz.underlying9 rfl rfl rfl (h1.app _) rfl <| r_lS Tryz.underlying9 rfl rfl <| r_ltF rfl rfl rfl (by omega) <| r_mv rfl rfl <| r_sk rfl rfl <| r_sk rfl rfl <| r_sk rfl rfl <| r_sk rfl rfl <| r_sk rfl rfl <| r_sk rfl rfl <| r_pF rfl rfl rfl <| r_mv rfl rfl <| r_sk rfl rfl <| r_sk rfl rfl <| r_sk rfl rfl <| r_sk rfl rfl <| r_sk rfl rfl <| r_sk rfl rfl <| r_pF rfl rfl rfl <| r_as rfl rfl <| r_nx h19 <| c_rt ?_; rotate_left)
    exact WE.ret1 () rfl rfl (by rw [hv]; rfl) trivial Mem.drop
/-- The code point that bytes begin with, behind its first byte. -/
def nxG (s : ByteArray) : Nat → Nat → Int → Int → Int → Int × Nat
  | 0, i, c, _, _ => (c, i)
  | k + 1, i, c, lo, hi => if inP s i lo hi = true then nxG s k (i + 1) (c * 64 + ((s.data.toList.getD i 0).toNat : Int) % 64) 128 191 else (65533, i)
def nextP (s : ByteArray) : Int × Nat :=
  if (s.data.toList.getD 0 0).toNat < 128 then (((s.data.toList.getD 0 0).toNat : Int), 1)
  else nxG s (fstP (s.data.toList.getD 0 0).toNat).more.toNat 1 (fstP (s.data.toList.getD 0 0).toNat).own (fstP (s.data.toList.getD 0 0).toNat).lo (fstP (s.data.toList.getD 0 0).toNat).hi
theorem fstP_bd (c : Nat) : (-1 ≤ (fstP c).more ∧ (fstP c).more ≤ 3) ∧ (0 ≤ (fstP c).own ∧ (((fstP c).own + 1) * 64 ^ (fstP c).more.toNat ≤ 2097152)) := by
  have e1 : (64 : Int) ^ 1 = 64 := by decide
  have e2 : (64 : Int) ^ 2 = 4096 := by decide
  have e3 : (64 : Int) ^ 3 = 262144 := by decide
  have e0 : (64 : Int) ^ 0 = 1 := by decide
  unfold fstP
  split
  · simp only [show (Int.toNat 1) = 1 from rfl, e1]; omega
  · split
    · simp only [show (Int.toNat 2) = 2 from rfl, e2]; omega
    · split
      · simp only [show (Int.toNat 2) = 2 from rfl, e2]; omega
      · split
        · simp only [show (Int.toNat 2) = 2 from rfl, e2]; omega
        · split
          · simp only [show (Int.toNat 3) = 3 from rfl, e3]; omega
          · split
            · simp only [show (Int.toNat 3) = 3 from rfl, e3]; omega
            · split
              · simp only [show (Int.toNat 3) = 3 from rfl, e3]; omega
              · simp only [show (Int.toNat (-1)) = 0 from rfl, e0]; omega
theorem nxG_bd (s : ByteArray) : ∀ (k i : Nat) (c lo hi : Int), 1 ≤ i → i ≤ s.size → 1 ≤ (nxG s k i c lo hi).2 ∧ (nxG s k i c lo hi).2 ≤ s.size
  | 0, i, c, lo, hi, h1, h2 => ⟨h1, h2⟩
  | k + 1, i, c, lo, hi, h1, h2 => by
    rw [nxG]
    split
    · rename_i h
      unfold inP at h
      simp only [Bool.and_eq_true, decide_eq_true_eq] at h
      exact nxG_bd s k (i + 1) _ _ _ (by omega) (by omega)
    · exact ⟨h1, h2⟩
theorem nextP_bd (s : ByteArray) (h : 0 < s.size) : 1 ≤ (nextP s).2 ∧ (nextP s).2 ≤ s.size := by
  unfold nextP
  split
  · exact ⟨Nat.le_refl _, h⟩
  · exact nxG_bd s _ 1 _ _ _ (Nat.le_refl _) h
set_option maxRecDepth 100000 in
theorem next_spec (s : ByteArray) (h0 : 0 < s.size) (hs : s.size ≤ 1000000000) (w0 : World) (m0 : List Res) : PureC Tryz.prog 38 [.string s] w0 m0 (.tuple #[.int .i32 (nextP s).1, .int .i64 (nextP s).2]) := by
  have hb0 := byte_at s h0
  have hP : nextP s = if (s.data.toList.getD 0 0).toNat < 128 then (((s.data.toList.getD 0 0).toNat : Int), 1) else nxG s (fstP (s.data.toList.getD 0 0).toNat).more.toNat 1 (fstP (s.data.toList.getD 0 0).toNat).own (fstP (s.data.toList.getD 0 0).toNat).lo (fstP (s.data.toList.getD 0 0).toNat).hi := rfl
  generalize s.data.toList.getD 0 0 = c0 at hb0 hP
  have h256 := c0.toNat_lt
  have hfb := fstP_bd c0.toNat
  have hfs := fun mm => first_spec c0 w0 mm
  refine Ct.of Tryz.func38 rfl (by kernel_rfl) rfl ?_
  (refine c_sq fun k12 h12 => c_rg <| r_bx rfl rfl rfl (fun _ => ?_); refine r_as rfl rfl <| r_as rfl rfl <| r_nx h12 <| c_sq fun k15 h15 => c_sq fun k17 h17 => c_rg <| r_lb 0 Tryz.underlying9 rfl rfl rfl rfl rfl ?_; rotate_left)
  rename_i b1
  refine r_iS (v := c0) Tryz.underlying9 rfl rfl rfl (by omega) (by simpa using hb0) ?_
  by_cases hlt : c0.toNat < 128
  · rw [if_pos hlt] at hP
    (refine r_ltT rfl rfl rfl (by omega) <| r_nx h17 <| c_cT rfl <| c_sq fun k21 h21 => c_rg <| r_lb 0 Tryz.underlying9 rfl rfl rfl rfl rfl ?_; rotate_left)
    refine r_iS (v := c0) Tryz.underlying9 rfl rfl rfl (by omega) (by simpa using hb0) ?_
    (refine r_cv rfl (cv_int (k' := .i32) rfl Tryz.underlying21 (w32 (by omega))) rfl <| r_as rfl rfl <| r_as rfl rfl <| r_nx h21 <| c_rt <| WE.then_r ?_; rotate_left)
    exact WE.ret2 () rfl rfl rfl rfl (by rw [hP]; rfl) trivial Mem.drop
  · rw [if_neg hlt] at hP
    (refine r_ltF rfl rfl rfl (by omega) <| r_nx h17 <| c_cF rfl <| c_sk <| WE.then_n h15 <| c_sq fun k21 h21 => c_rg <| r_lb 0 Tryz.underlying9 rfl rfl rfl rfl rfl ?_; rotate_left)
    refine r_iS (v := c0) Tryz.underlying9 rfl rfl rfl (by omega) (by simpa using hb0) ?_
    refine WX.pure rfl rfl (hfs _) rfl rfl ?_
    generalize fstP c0.toNat = F at hP hfb ⊢
    simp only [fstV]
    clear hfs
    (refine r_mv rfl rfl <| r_ex rfl rfl rfl <| r_ex rfl rfl rfl <| r_ex rfl rfl rfl <| r_al (z := .agg #[.int .u8 0, .int .u8 0]) (cs := [.int .u8 0, .int .u8 0]) (fun _ => by kernel_rfl) rfl rfl (fun _ => ?_); refine r_as rfl rfl <| r_as rfl rfl <| r_sa 0 (by kernel_rfl) rfl rfl rfl rfl rfl rfl rfl <| r_nx h21 <| c_sq fun k27 h27 => c_rg <| r_fn rfl rfl <| r_as rfl rfl <| r_nx h27 <| c_sq fun k29 h29 => c_sq fun k31 h31 => c_rg <| r_as rfl rfl <| r_nx h31 <| c_bl ?_; rotate_left)
    rename_i b6
    refine WC.loop (α := Nat × Nat × Int × Int × Int) (fun x => [(1, .pointer (some ⟨b1, 0, none⟩)), (4, .int .i64 F.more), (5, .int .i32 x.2.2.1), (6, .pointer (some ⟨b6, 0, none⟩)), (7, .func (.func 66) #[] #[.pointer (some ⟨b1, 0, none⟩), .pointer (some ⟨b6, 0, none⟩)]), (8, .int .i64 x.2.1)])
      (fun x => [.blk b6 [.int .u8 x.2.2.2.1, .int .u8 x.2.2.2.2] 96, .blk b1 [.string s] 9])
      (fun x => nxG s x.1 x.2.1 x.2.2.1 x.2.2.2.1 x.2.2.2.2 = nextP s ∧ (1 ≤ x.2.1 ∧ x.2.1 ≤ s.size) ∧ (x.1 : Int) = max F.more 0 + 1 - x.2.1 ∧ 0 ≤ x.2.2.1 ∧ (x.2.2.1 + 1) * 64 ^ x.1 ≤ 2097152) (fun x => x.1) (F.more.toNat, 1, F.own, F.lo, F.hi)
      ⟨hP.symm, by dsimp only; omega, by dsimp only; omega, hfb.2.1, hfb.2.2⟩ ⟨rfl, rfl, rfl, rfl, rfl, rfl, trivial⟩ Mem.keep ?_
    rintro ⟨k, i, c, lo, hi⟩ ⟨e1, e2, e3, e4, e5⟩
    dsimp only at e1 e2 e3 e4 e5 ⊢
    cases k with
    | zero =>
      rw [nxG] at e1
      (refine c_sq fun k46 h46 => c_sq fun k48 h48 => c_rg <| r_mv rfl rfl <| r_mv rfl rfl <| r_leF rfl rfl rfl (by omega) <| r_nx h48 <| c_cF rfl <| c_ex <| WE.then_x <| WE.then_x <| WE.blk_x <| WE.then_n h29 <| c_sq fun k50 h50 => c_rg <| r_mv rfl rfl <| r_mv rfl rfl <| r_mx rfl rfl rfl <| r_ad rfl rfl rfl (wadd64 (by omega)) <| r_as rfl rfl <| r_as rfl rfl <| r_nx h50 <| c_rt ?_; rotate_left)
      exact WE.ret2 () rfl rfl rfl rfl (by rw [← e1]; exact congrArg (fun z => Value.tuple #[.int .i32 c, .int .i64 z]) (by dsimp only; omega)) trivial Mem.drop
    | succ k =>
      rw [nxG] at e1
      have hin := fun mm h1 h6 => in_spec s i lo hi b1 b6 hs w0 mm h1 h6
      (refine c_sq fun k49 h49 => c_sq fun k51 h51 => c_rg <| r_mv rfl rfl <| r_mv rfl rfl <| r_leT rfl rfl rfl (by omega) <| r_nx h51 <| c_cT rfl <| c_sk <| WE.then_n h49 <| c_sq fun k53 h53 => c_bl <| c_sq fun k55 h55 => c_sq fun k57 h57 => c_rg <| r_mv rfl rfl <| r_mv rfl rfl ?_; rotate_left)
      refine WX.pure rfl rfl (hin _ (Rd.blk 1 rfl) (Rd.blk 0 rfl)) rfl rfl ?_
      cases hii : inP s i lo hi with
      | false =>
        rw [hii, if_neg (by decide)] at e1
        (refine r_no rfl rfl rfl <| r_nx h57 <| c_cT rfl <| c_sq fun k62 h62 => c_rg <| r_mv rfl rfl <| r_as rfl rfl <| r_as rfl rfl <| r_nx h62 <| c_rt <| WE.then_r <| WE.blk_r <| WE.then_r <| WE.then_r <| WE.blk_r <| WE.then_r ?_; rotate_left)
        exact WE.ret2 () rfl rfl rfl rfl (by rw [← e1]) trivial Mem.drop
      | true =>
        rw [hii, if_pos rfl] at e1
        have hil : i < s.size := by
          unfold inP at hii
          simp only [Bool.and_eq_true, decide_eq_true_eq] at hii
          exact hii.1.1
        have hbi := byte_at s hil
        generalize s.data.toList.getD i 0 = ci at hbi e1
        have hm0 : 0 ≤ (ci.toNat : Int) % 64 := Int.emod_nonneg _ (by decide)
        have hm1 : (ci.toNat : Int) % 64 < 64 := Int.emod_lt_of_pos _ (by decide)
        have hp : (0 : Int) < 64 ^ k := Int.pow_pos (by decide)
        have h64 : (c + 1) * 64 ^ (k + 1) = (c * 64 + 64) * 64 ^ k := by rw [Int.pow_succ, Int.mul_comm (64 ^ k) 64, ← Int.mul_assoc, Int.add_mul, Int.one_mul]
        have hc6 : (c * 64 + 64) * 1 ≤ (c * 64 + 64) * 64 ^ k := Int.mul_le_mul_of_nonneg_left (by omega) (by omega)
        rw [h64] at e5
        have hcb : c * 64 ≤ 2097152 := by omega
        have hc7 : (c * 64 + (ci.toNat : Int) % 64 + 1) * 64 ^ k ≤ (c * 64 + 64) * 64 ^ k := Int.mul_le_mul_of_nonneg_right (by omega) (by omega)
        (refine r_no rfl rfl rfl <| r_nx h57 <| c_cF rfl <| c_sk <| WE.then_n h55 <| c_sq fun k74 h74 => c_rg <| r_mv rfl rfl ?_; rotate_left)
        refine r_bi (s := .int .i32 (c * 64)) rfl rfl (fun _ _ => rfl) (fun w _ => shl6_run c e4 (by omega) w _) rfl ?_
        (refine r_lb 1 Tryz.underlying9 rfl rfl rfl rfl rfl <| r_mv rfl rfl ?_; rotate_left)
        refine r_iS (v := ci) Tryz.underlying9 rfl rfl rfl (by omega) (by simpa using hbi) ?_
        refine r_bi (s := .int .u8 ((ci.toNat : Int) % 64)) rfl rfl (fun _ _ => eqGuard_at_int ..) (fun w _ => u8_mask 63 (by decide) ci w _) rfl ?_
        (refine r_cv rfl (cv_int (k' := .i32) rfl Tryz.underlying21 (w32 (by omega))) rfl ?_; rotate_left)
        refine r_bi (s := .int .i32 (c * 64 + (ci.toNat : Int) % 64)) rfl rfl (fun _ _ => eqGuard_at_int ..) (fun w _ => or6_run c _ e4 (by omega) hm0 hm1 w _) rfl ?_
        (refine r_as rfl rfl <| r_nx h74 <| c_rg <| r_bd rfl (fun _ => by kernel_rfl) rfl <| r_sa 0 (by kernel_rfl) rfl rfl rfl rfl rfl rfl rfl <| r_nl <| WE.blk_n <| WE.then_n h53 <| c_rg <| r_mv rfl rfl <| r_ad rfl rfl rfl (wadd64 (by omega)) <| r_as rfl rfl <| r_nl ?_; rotate_left)
        exact WE.back (k, i + 1, c * 64 + (ci.toNat : Int) % 64, 128, 191) ⟨e1, by dsimp only; omega, by dsimp only; omega, by dsimp only; omega, by dsimp only; omega⟩ (by dsimp only; omega) ⟨rfl, rfl, rfl, rfl, rfl, rfl, trivial⟩ Mem.keep
def decU : Nat → ByteArray → List Int
  | 0, _ => []
  | f + 1, s => if s.size = 0 then [] else (nextP s).1 :: decU f (s.extract (nextP s).2 s.size)
/-- The code points of bytes. -/
def decUP (s : ByteArray) : List Int := decU (s.size + 1) s
set_option maxRecDepth 100000 in
theorem decU_spec (s : ByteArray) (hs : s.size ≤ 1000000) (w0 : World) (m0 : List Res) :
    Ct (α := Option Addr × Nat) Tryz.prog 20 [.string s] w0 [] m0 (fun _ => True) (fun p => SlR p (decUP s)) (fun p => [OwnR p (decUP s)]) := by
  refine Ct.of Tryz.func20 rfl (by kernel_rfl) rfl ?_
  (refine c_sq fun k5 h5 => c_rg <| r_as rfl rfl <| r_nx h5 <| c_sq fun k7 h7 => c_rg <| r_as rfl rfl <| r_nx h7 <| c_sq fun k9 h9 => c_bl ?_; rotate_left)
  refine WC.loop (α := Nat × ByteArray × List Int × (Option Addr × Nat)) (fun x => [(0, .string x.2.1), (3, SlR x.2.2.2 x.2.2.1)]) (fun x => [OwnR x.2.2.2 x.2.2.1]) (fun x => x.2.2.1 ++ decU x.1 x.2.1 = decUP s ∧ x.2.1.size < x.1 ∧ x.2.1.size + x.2.2.1.length ≤ s.size) (fun x => x.2.1.size) (s.size + 1, s, [], (none, 0)) ⟨rfl, by dsimp only; omega, by simp⟩ ⟨rfl, rfl, trivial⟩ (Mem.nilOwn _ _) ?_
  rintro ⟨f, s1, acc, p⟩ ⟨e, h1, h2⟩
  dsimp only at e h1 h2 ⊢
  cases f with
  | zero => omega
  | succ f =>
    rw [decU] at e
    by_cases h0 : s1.size = 0
    · rw [if_pos h0, List.append_nil] at e
      subst e
      (refine c_sq fun k26 h26 => c_sq fun k28 h28 => c_rg <| r_mv rfl rfl <| r_lS Tryz.underlying9 rfl rfl <| r_gtF rfl rfl rfl (by omega) <| r_nx h28 <| c_cF rfl <| c_ex <| WE.then_x <| WE.then_x <| WE.blk_x <| WE.then_n h9 <| c_sq fun k30 h30 => c_rg <| r_mv rfl rfl <| r_as rfl rfl <| r_nx h30 <| c_rt ?_; rotate_left)
      exact WE.ret1 p rfl rfl rfl trivial Mem.keep
    · rw [if_neg h0] at e
      have hb := nextP_bd s1 (by omega)
      have hn := fun mm => next_spec s1 (by omega) (by omega) w0 mm
      have hx : (s1.extract (nextP s1).2 s1.size).size = s1.size - (nextP s1).2 := by rw [ByteArray.size_extract]; omega
      generalize (nextP s1).2 = n at e hb hn hx
      generalize (nextP s1).1 = c at e hn
      (refine c_sq fun k32 h32 => c_sq fun k34 h34 => c_rg <| r_mv rfl rfl <| r_lS Tryz.underlying9 rfl rfl <| r_gtT rfl rfl rfl (by omega) <| r_nx h34 <| c_cT rfl <| c_sk <| WE.then_n h32 <| c_bl <| c_sq fun k36 h36 => c_rg <| r_mv rfl rfl ?_; rotate_left)
      refine WX.pure rfl rfl (hn _) rfl rfl ?_
      (refine r_mv rfl rfl <| r_ex rfl rfl rfl <| r_ex rfl rfl rfl <| r_as rfl rfl <| r_as rfl rfl <| r_nx h36 <| c_sq fun k38 h38 => c_rg <| r_mv rfl rfl <| r_mv rfl rfl <| r_bo Tryz.underlying47 rfl (fun _ => by kernel_rfl) rfl rfl rfl (fun _ => ?_); rotate_left)
      refine r_am (xs := acc) (ys := [c]) 1 (z := .int .i32 0) (by_ := 4) (f := (.int .i32 ·)) Tryz.underlying47 (by kernel_rfl) rfl rfl rfl rfl (Rd.own 0 rfl) rfl (fun _ => rfl) (by omega) rfl (fun p2 _ => ?_)
      (refine r_as rfl rfl <| r_nx h38 <| c_rg <| r_mv rfl rfl <| r_mv rfl rfl ?_; rotate_left)
      refine r_sF Tryz.underlying9 rfl rfl (by omega) (by omega) rfl ?_
      (refine r_as rfl rfl <| r_nl <| WE.blk_n ?_; rotate_left)
      exact WE.back (f, s1.extract n s1.size, acc ++ [c], p2) ⟨by dsimp only; rw [List.append_assoc]; exact e, by dsimp only; omega, by dsimp only; rw [List.length_append]; simp; omega⟩ (by dsimp only; omega) ⟨rfl, rfl, trivial⟩ (Mem.pick [1] (by decide) rfl)
end Go.Proofs.YtkggplnigjlegaaGreatDoor

/- rules.Parse: the walk. -/
set_option linter.unusedVariables false
set_option linter.unusedSimpArgs false
namespace Go.Gp
open Go.RowKit
section
variable {C : Cx} {Q : Po} {l : List (Nat × Value)} {m : List Res} {ops : Array Oper} {rest : List Oper} {ty : TypeId} {pos : String} {af : Array Edge} {g : Option (Nat × Bool)} {d : Nat} {x : Operand} {t : TypeId} {dd : Option Nat}
theorem Ev.appendN {s : Operand} {e : TypeId} {inf : TypeInfo} {z : Value} {A : Option Addr} {a : Addr} {c c' n k i by_ sz : Nat} {xs ys : List Value}
    (ht : C.P.underlying t = some (.slice e)) (hi : C.P.info? e = some inf) (hz : inf.zero = some z) (hsz : inf.size = sz) (hby : inf.bytes = by_) (hzs : z.cells.size = sz) (hs0 : 0 < sz)
    (hs : opv l s = some (.slice A n c)) (hx : opv l x = some (.slice (some a) k c')) (hm : m[i]? = some (.own A c n xs e sz)) (hnews : ∀ w, Mem C.w0 (m ++ C.m0) w → ∀ j u, ys[j]? = some u → w.cell? (a.add j) = some u) (hk : ys.length = k * sz) (h1 : ∀ u ∈ ys, u.oneCell' = true)
    (h63 : n + k ≤ maxLen) (hbb : (n + k) * by_ ≤ 140737488355328) :
    Ev (α := Option Addr × Nat) C l m ⟨dd, .call { callee := .builtin .append, args := #[s, x], argTypes := #[t, t] }, ty, pos, af, g⟩ (fun _ => True) (fun p => .slice p.1 (n + k) p.2) (fun p => m.set i (.own p.1 p.2 (n + k) (xs ++ ys) e sz)) := fun ev hev w hw => by
  have hlt : i < m.length := (List.getElem?_eq_some_iff.1 hm).1
  have hm' : (m ++ C.m0)[i]? = some (.own A c n xs e sz) := by rw [List.getElem?_append_left hlt]; exact hm
  have hown : w.ownsRow C.w0.heap.size e sz (.slice A n c) n xs := hw.all i _ hm'
  obtain ⟨v', w', hrun, h2, h3, h4, h5⟩ := run_append_own_at (P := C.P) w C.w0.heap.size t ty e inf z sz by_ ht hi hz hsz hby hzs hs0 (.slice A n c) n xs hown a k c' ys hk (hnews w hw) h1 h63 hbb hw.bnd
  have hform : ∃ p : Option Addr × Nat, v' = .slice p.1 (n + k) p.2 := by
    rcases h2.2 with ⟨h, h'⟩ | ⟨g, cap, cur, h, _⟩
    · exact ⟨(none, 0), by rw [h, h']⟩
    · exact ⟨(some ⟨g, 0, none⟩, cap), h⟩
  obtain ⟨p, rfl⟩ := hform
  have hblk : ∀ (q : Option Addr) (u c : Nat), Value.ownBlock (.slice q u c) = q.map (·.block) := by intro q u c; cases q <;> rfl
  refine ⟨p, w', trivial, ?_, ?_⟩
  · simp [execOp, resolve, invoke, builtin, hev s _ hs, hev x _ hx, hrun]
  · rw [← List.set_append_left _ _ hlt]
    refine hw.upd hm' (by rw [hblk] at h3; exact h3) h2 ?_
    intro g hg
    rw [hblk, hblk] at h5
    have hg' : p.1.map (·.block) = some g := hg
    rcases h5 with h5 | h5
    · left; show A.map (·.block) = some g; rw [← h5]; exact hg'
    · right
      rw [h5] at hg'
      have := Option.some.inj hg'
      omega
end
end Go.Gp
namespace Go.Proofs.YtkggplnigjlegaaGreatDoor
open Go.RowKit Go.Gp

abbrev bangB : ByteArray := ⟨#[33]⟩
def nameP (w : ByteArray) : ByteArray := if preB w bangB = true then w.extract 1 w.size else w
/-- The rule of a word, or none. -/
def ruleP (w : ByteArray) : Option (List ByteArray × Bool) := match allP (decUP (nameP w)) with
  | .error _ => none
  | .ok s => (labelsP s).map (·, preB w bangB)
def parseP (s : ByteArray) : List (List ByteArray × Bool) := (wordsP s).filterMap ruleP
/-- What label.All is asked for. -/
def AllOk (l : List Int) : Prop := l.length ≤ 1000000 ∧ R32 l ∧ (okAll l = true → (foldP l).length ≤ 900000 ∧ ∀ q ∈ splitP 46 (foldP l), q.length ≤ 16000 ∧ ∀ t, oneP q = some t → t.size ≤ 500000) ∧ ∀ s, allP l = .ok s → s.size ≤ 800000

structure PS where
  done : List (Nat × List ByteArray × Bool)
  p : Option Addr × Nat
abbrev ruleV (d : Nat × List ByteArray × Bool) : List Value := [.slice (some ⟨d.1, 0, none⟩) d.2.1.length d.2.1.length, .bool d.2.2]
def rulesV (ds : List (Nat × List ByteArray × Bool)) : List Value := (ds.map ruleV).flatten
def labsM (ds : List (Nat × List ByteArray × Bool)) : List Res := ds.map (fun d => .blk d.1 (strsV d.2.1) 9)
def PM (s : PS) : List Res := .own s.p.1 s.p.2 s.done.length (rulesV s.done) 32 2 :: labsM s.done
def PJ (r : Loop) (lp o : Nat) (s : PS) : List Res := .obj lp (.loop r) :: .blk o [.slice s.p.1 s.done.length s.p.2] 27 :: PM s
def PR (s : PS) (w : ByteArray) (s' : PS) (b : Bool) : Prop := b = true ∧ s'.done.map (·.2) = s.done.map (·.2) ++ (ruleP w).toList
def PPre (N : Nat) (ws : List ByteArray) (s : PS) : Prop := s.done.length + ws.length ≤ N ∧ ∀ w ∈ ws, w.size ≤ 800000 ∧ AllOk (decUP (nameP w))
theorem PR_runs : ∀ (ws : List ByteArray) (s t : PS), Runs PR ws s t → t.done.map (·.2) = s.done.map (·.2) ++ ws.filterMap ruleP
  | [], s, t, h => by
    have e : s = t := h
    subst e
    simp
  | w :: ws, s, t, h => by
    obtain ⟨s', b, ⟨rfl, h2⟩, h⟩ := h
    have := PR_runs ws s' t (by simpa using h)
    rw [this, h2, List.filterMap_cons]
    cases ruleP w <;> simp
theorem rule_info : ∃ inf, Tryz.prog.info? 32 = some inf ∧ inf.zero = some (.agg #[.slice none 0 0, .bool false]) ∧ inf.size = 2 ∧ inf.bytes = 32 := by
  have h : (Tryz.prog.info? 32).map (fun i => (i.zero, i.size, i.bytes)) = some (some (.agg #[.slice none 0 0, .bool false]), 2, 32) := by kernel_rfl
  cases hq : Tryz.prog.info? 32 with
  | none => simp [hq] at h
  | some inf => exact ⟨inf, rfl, by simpa [hq] using h⟩
set_option maxRecDepth 100000 in
theorem parse_spec (s : ByteArray) (hs : s.size ≤ 800000) (hw : ∀ w ∈ wordsP s, w.size ≤ 800000 ∧ AllOk (decUP (nameP w))) (w0 : World) (m0 : List Res) :
    Ct (α := PS) Tryz.prog 8 [.string s] w0 [] m0 (fun x => x.done.map (·.2) = parseP s) (fun x => .slice x.p.1 x.done.length x.p.2) PM := by
  refine Ct.ofM Tryz.func8 rfl (by kernel_rfl) rfl ?_
  (refine c_sq fun k6 h6 => c_rg <| r_as rfl rfl <| r_nx h6 <| c_sq fun k8 h8 => c_rg <| r_al (z := .slice none 0 0) (cs := [.slice none 0 0]) (fun _ => by kernel_rfl) rfl rfl (fun _ => ?_); refine r_nx h8 ?_; rotate_left)
  rename_i o
  refine c_sqD (fun K hK => ?_)
  (refine c_sq fun k13 h13 => c_rg <| r_mv rfl rfl ?_; rotate_left)
  refine WX.call (m1 := []) (m2 := _) rfl rfl rfl (words_spec s _ _) rfl rfl (fun bw _ => ?_)
  (refine r_nx h13 <| c_bl ?_; rotate_left)
  refine WC.range rfl (fun dk lp r hr1 hr2 hr3 hr4 hr5 hsl => ?_)
  have hr0 : r = lrec r none := lrec_none hr1 hr2
  have hpost : ∀ (x : PS) w, Mem w0 ((PJ (lrec r none) lp o x ++ [.obj dk (.deferred (some []))]) ++ m0) w → Mem w0 ((.obj lp (.loop (lrec r none)) :: .obj dk (.deferred (some [])) :: .blk o [.slice x.p.1 x.done.length x.p.2] 27 :: PM x) ++ m0) w := fun x w hw =>
    Mem.pickL (m := [.obj dk (.deferred (some [])), .obj lp (.loop (lrec r none)), .blk o [.slice x.p.1 x.done.length x.p.2] 27]) (J := PM x) (m' := [.obj lp (.loop (lrec r none)), .obj dk (.deferred (some [])), .blk o [.slice x.p.1 x.done.length x.p.2] 27]) [1, 0, 2] (by decide) rfl w (Mem.unrot w hw)
  refine ⟨PS, fun t => Runs PR (wordsP s) ⟨[], (none, 0)⟩ t, fun _ => .tuple #[], fun x => .obj lp (.loop (lrec r none)) :: .obj dk (.deferred (some [])) :: .blk o [.slice x.p.1 x.done.length x.p.2] 27 :: PM x, ?_, ?_⟩
  · refine Ct.perm (m1 := .blk bw [.string s] 9 :: PJ (lrec r none) lp o ⟨[], (none, 0)⟩) (m2 := [.obj dk (.deferred (some []))]) ?_ ?_ hpost
    · refine words1_spec lp bw (PJ (lrec r none) lp o) (PPre 1000000) PR s hs w0 _ ⟨[], (none, 0)⟩ ⟨?_, hw⟩ ?_ ?_
      · have h1 : (wordsP s).length ≤ (splitS 10 s).length := by
          unfold wordsP wordsL
          exact Nat.le_trans (List.length_filter_le _ _) (by simp)
        have := splitS_len 10 s
        show 0 + _ ≤ _
        omega
      · rintro x q ps x' ⟨h1, h2⟩ ⟨_, hR⟩
        refine ⟨?_, fun w hw => h2 w (by simp [hw])⟩
        have := congrArg List.length hR
        rw [List.length_map, List.length_append, List.length_map] at this
        have h3 : (ruleP q).toList.length ≤ 1 := by cases ruleP q <;> simp
        rw [List.length_cons] at h1
        omega
      · rintro ⟨done, p⟩ q ps mm ⟨h1, h2⟩
        dsimp only at h1
        obtain ⟨hq, hA1, hA2, hA3, hA4⟩ := h2 q (by simp)
        have hr3' : (lrec r none).params = #[13] := hr3
        refine YCt.of (r := lrec r none) 0 hr3' rfl hsl rfl ?_
        rw [show (lrec r none).assign = _ from hr4, show (lrec r none).body = _ from hr5]
        clear hr4 hr5 hr3 hr3' hsl
        (refine c_rg <| r_as rfl rfl <| r_nl ?_; rotate_left)
        refine WE.begin (r := lrec r none) 0 rfl rfl ?_
        simp only [PJ]
        (refine c_bl <| c_sq fun k40 h40 => c_rg <| r_mv rfl rfl ?_; rotate_left)
        refine WX.pure rfl rfl (cutPrefix_spec q bangB (by decide) _ _) rfl rfl ?_
        (refine r_mv rfl rfl <| r_ex rfl rfl rfl <| r_ex rfl rfl rfl <| r_as rfl rfl <| r_as rfl rfl <| r_nx h40 <| c_sq fun k42 h42 => c_rg <| r_mv rfl rfl ?_; rotate_left)
        have hnm : (nameP q).size ≤ 800000 := by
          unfold nameP
          split
          · rw [ByteArray.size_extract]; omega
          · exact hq
        refine WX.call (m1 := []) (m2 := _) rfl rfl rfl (decU_spec (nameP q) (by omega) _ _) rfl rfl (fun pd _ => ?_)
        have hPR : ∀ x' b, PR ⟨done, p⟩ q x' b ↔ (b = true ∧ x'.done.map (·.2) = done.map (·.2) ++ (ruleP q).toList) := fun _ _ => Iff.rfl
        have hrule : ruleP q = match allP (decUP (nameP q)) with
          | .error _ => none
          | .ok s => (labelsP s).map (·, preB q bangB) := rfl
        generalize decUP (nameP q) = cps at hA1 hA2 hA3 hA4 hrule ⊢
        refine WX.call (m1 := []) (m2 := _) rfl rfl rfl (all_spec _ _ cps hA1 hA2 hA3 _ _ (Rd.own 0 rfl)) rfl rfl (fun L hL => ?_)
        cases hall : allP cps with
        | error n =>
          rw [hall] at hrule
          have hnone : (ruleP q).toList = [] := by rw [hrule]; rfl
          rw [hnone, List.append_nil] at hPR
          simp only [allV, allM]
          refine WX.mem (m' := .own pd.1 pd.2 cps.length (runes cps) 21 1 :: .obj lp (.loop { lrec r none with state := .busy }) :: .blk o [.slice p.1 done.length p.2] 27 :: PM ⟨done, p⟩) (fun w h => by rw [List.append_assoc] at h; exact Mem.appR h) ?_
          cases L with
          | nil => exact absurd rfl hL
          | cons e L =>
          obtain ⟨eb, es⟩ := e
          simp only [ecv]
          (refine r_mv rfl rfl <| r_ex rfl rfl rfl <| r_ex rfl rfl rfl <| r_as rfl rfl <| r_as rfl rfl <| r_nx h42 <| c_sq fun k66 h66 => c_sq fun k68 h68 => c_rg <| r_mv rfl rfl <| r_bk (.bool true) rfl rfl (fun _ => by kernel_rfl) rfl <| r_nx h68 <| c_cT rfl <| c_ex <| WE.then_x <| WE.blk_x ?_; rotate_left)
          exact WE.round_n 1 (⟨done, p⟩, true) rfl rfl ((hPR _ _).2 ⟨rfl, rfl⟩) (fun w h => Mem.tail h)
        | ok d =>
          rw [hall] at hrule
          have hd := hA4 d hall
          simp only [allV, allM]
          (refine r_mv rfl rfl <| r_ex rfl rfl rfl <| r_ex rfl rfl rfl <| r_as rfl rfl <| r_as rfl rfl <| r_nx h42 <| c_sq fun k62 h62 => c_sq fun k64 h64 => c_rg <| r_mv rfl rfl <| r_bk (.bool false) rfl rfl (fun _ => by kernel_rfl) rfl <| r_nx h64 <| c_cF rfl <| c_sk <| WE.then_n h62 <| c_sq fun k66 h66 => c_rg <| r_mv rfl rfl ?_; rotate_left)
          refine WX.call (m1 := []) (m2 := _) rfl rfl rfl (labels_spec d hd _ _) rfl rfl (fun bl _ => ?_)
          cases hlab : labelsP d with
          | none =>
            have hnone : (ruleP q).toList = [] := by rw [hrule]; dsimp only; rw [hlab]; rfl
            rw [hnone, List.append_nil] at hPR
            simp only [labV, labM]
            (refine r_mv rfl rfl <| r_ex rfl rfl rfl <| r_ex rfl rfl rfl <| r_as rfl rfl <| r_as rfl rfl <| r_nx h66 <| c_sq fun k71 h71 => c_rg <| r_mv rfl rfl <| r_nx h71 <| c_cF rfl <| c_sk <| WE.blk_n ?_; rotate_left)
            exact WE.round_n 1 (⟨done, p⟩, true) rfl rfl ((hPR _ _).2 ⟨rfl, rfl⟩) (fun w h => Mem.tail h)
          | some ls =>
            have hsome : (ruleP q).toList = [(ls, preB q bangB)] := by rw [hrule]; dsimp only; rw [hlab]; rfl
            rw [hsome] at hPR
            simp only [labV, labM]
            (refine r_mv rfl rfl <| r_ex rfl rfl rfl <| r_ex rfl rfl rfl <| r_as rfl rfl <| r_as rfl rfl <| r_nx h66 <| c_sq fun k76 h76 => c_rg <| r_mv rfl rfl <| r_nx h76 <| c_cT rfl <| c_rg <| r_lb 3 Tryz.underlying27 rfl rfl rfl rfl rfl <| r_mv rfl rfl <| r_mv rfl rfl <| r_bd rfl (fun _ => by kernel_rfl) rfl ?_)
            refine WX.ev (Ev.buildSlice (e := 32) (vs := [(0, .agg #[.slice (some ⟨bl, 0, none⟩) ls.length ls.length, .bool (preB q bangB)])]) (cs := ruleV (bl, ls, preB q bangB)) rfl (fun w => by kernel_rfl)) rfl rfl rfl rfl (fun a _ => ?_)
            obtain ⟨inf, hinf, hi1, hi2, hi3⟩ := rule_info
            refine WX.ev (Ev.appendN (e := 32) (i := 5) (xs := rulesV done) (ys := ruleV (bl, ls, preB q bangB)) Tryz.underlying27 hinf hi1 hi2 hi3 rfl (by decide) rfl rfl rfl (fun w hw j v hj => by
              rw [addr_add]
              exact hw.rowCell 0 rfl hj) rfl (fun u hu => by
              simp only [ruleV, List.mem_cons, List.not_mem_nil, or_false] at hu
              rcases hu with rfl | rfl <;> rfl) (by unfold maxLen; simp at h1; omega) (by simp at h1; omega)) rfl rfl rfl rfl (fun p2 _ => ?_)
            (refine r_st 4 (by kernel_rfl) rfl rfl rfl rfl rfl rfl rfl <| r_nl <| WE.blk_n ?_; rotate_left)
            refine WE.round_n 3 (⟨done ++ [(bl, ls, preB q bangB)], p2⟩, true) rfl rfl ((hPR _ _).2 ⟨rfl, by simp⟩) (fun w hw => ?_)
            have e1 : rulesV (done ++ [(bl, ls, preB q bangB)]) = rulesV done ++ ruleV (bl, ls, preB q bangB) := by simp [rulesV]
            have e2 : labsM (done ++ [(bl, ls, preB q bangB)]) = labsM done ++ [.blk bl (strsV ls) 9] := by simp [labsM]
            have e3 : (done ++ [(bl, ls, preB q bangB)]).length = done.length + 1 := by simp
            have h5 := Mem.pickL (m := [.blk a (ruleV (bl, ls, preB q bangB)) 32, .blk bl (strsV ls) 9, OwnR pd cps, .obj lp (.loop (lrec r none)), .blk o [.slice p2.1 (done.length + 1) p2.2] 27, .own p2.1 p2.2 (done.length + 1) (rulesV done ++ ruleV (bl, ls, preB q bangB)) 32 2]) (J := labsM done) (m' := [.blk bl (strsV ls) 9, .obj lp (.loop (lrec r none)), .blk o [.slice p2.1 (done.length + 1) p2.2] 27, .own p2.1 p2.2 (done.length + 1) (rulesV done ++ ruleV (bl, ls, preB q bangB)) 32 2]) [1, 3, 4, 5] (by decide) rfl w hw
            have h6 := Mem.rot w h5
            dsimp only [PM]
            rw [e1, e2, e3]
            exact h6
    · intro w hw
      rw [hr0] at hw
      exact Mem.pick [3, 1, 4, 0, 2] (by decide) rfl w (Mem.addNil 32 2 w hw)
  · rintro x ht
    have ht' := PR_runs _ _ _ ht
    refine ⟨lrec r none, 0, rfl, by simp [lrec], fun r'' => .inl ⟨rfl, ?_⟩⟩
    refine WE.blk_n ?_
    refine WE.then_n (hK _) ?_
    clear hr3 hr4 hr5 hsl hK
    dsimp only [List.set_cons_zero]
    (refine c_sq fun k32 h32 => c_rg <| r_lb 2 Tryz.underlying27 rfl rfl rfl rfl rfl <| r_as rfl rfl <| r_nx h32 <| c_rt ?_; rotate_left)
    exact WE.retM1 1 x rfl rfl rfl rfl (by rw [ht']; rfl) (fun w hw => Mem.tail (Mem.tail (Mem.tail hw)))
end Go.Proofs.YtkggplnigjlegaaGreatDoor

/- Slices of structs: an element's address, its load, a row of them laid open. -/
set_option linter.unusedVariables false
namespace Go.Gp
open Go.RowKit
section
variable {C : Cx} {Q : Po} {l : List (Nat × Value)} {m : List Res} {ops : Array Oper} {rest : List Oper} {ty : TypeId} {pos : String} {af : Array Edge} {g : Option (Nat × Bool)} {b : Bool} {d : Nat} {x y : Operand} {t : TypeId}
theorem r_iaN (o' : Nat) {e bb o n c sz : Nat} {k : IntKind} {i : Int} (ht : C.P.underlying t = some (.slice e)) (he : (C.P.info? e).map (·.size) = some sz) (hx : opv l x = some (.slice (some ⟨bb, o, none⟩) n c)) (hy : opv l y = some (.int k i)) (h : okk ops l g d C.n = true) (h0 : 0 ≤ i) (h1 : i < n) (ho : o + i.toNat * sz = o') (cc : WX b C Q ops rest ((d, .pointer (some ⟨bb, o', none⟩)) :: l) m) :
    WX b C Q ops (⟨some d, .indexAddr t x y, ty, pos, af, g⟩ :: rest) l m := by
  refine WX.q (fun ev hev w _ => ?_) rfl (okk_1 h) (okk_2 h) rfl cc
  cases hq : C.P.info? e with
  | none => simp [hq] at he
  | some inf =>
    have hs : inf.size = sz := by simpa [hq] using he
    have ha : (⟨bb, o, none⟩ : Addr).add (i.toNat * sz) = ⟨bb, o', none⟩ := by rw [addr_add2, ho]
    simp [execOp, hev x _ hx, hev y _ hy, Instr.indexAt, asIntOf, run_underlying ht, h0, h1, sizeOf, typeInfo, hq, hs, ha]
/-- A struct that lies in a block of which the cells can be read. -/
theorem r_lm {bb o : Nat} {xs cs : List Value} {dd : TypeDesc} (ht : C.P.underlying t = some dd) (hd : dd.isRow = true) (hz : (C.P.info? t).map (·.size) = some cs.length) (hx : opv l x = some (.pointer (some ⟨bb, o, none⟩))) (h : okk ops l g d C.n = true) (hr : Rd C.w0 (m ++ C.m0) (some ⟨bb, 0, none⟩) xs) (hcs : ∀ j v, cs[j]? = some v → xs[o + j]? = some v)
    (c : WX b C Q ops rest ((d, .agg cs.toArray) :: l) m) : WX b C Q ops (⟨some d, .load t x, ty, pos, af, g⟩ :: rest) l m := by
  refine WX.q (fun ev hev w hw => ?_) rfl (okk_1 h) (okk_2 h) rfl c
  have hrun := run_loadVar_mid (P := C.P) w bb o t cs dd (fun j v hj => hr.get hw (hcs j v hj)) ht hd hz
  simp [execOp, hev x _ hx, Instr.loadAt, Instr.sureAddr, hrun]
theorem WX.openN (i : Nat) {A : Option Addr} {c n sz : Nat} {xs : List Value} {e : TypeId} (hi : m[i]? = some (.own A c n xs e sz)) (hn : 0 < n) (h : ∀ (gg : Nat) (cur : List Value), A = some ⟨gg, 0, none⟩ → cur.length = c * sz → cur.take (n * sz) = xs → n ≤ c → c ≤ maxLen → WX false C Q ops rest l (m.set i (.blk gg cur e))) : WX false C Q ops rest l m := by
  have hlt : i < m.length := (List.getElem?_eq_some_iff.1 hi).1
  have hu : ∀ a w, C.St l m a w → ∃ gg cur, A = some ⟨gg, 0, none⟩ ∧ cur.length = c * sz ∧ cur.take (n * sz) = xs ∧ n ≤ c ∧ c ≤ maxLen ∧ C.St l (m.set i (.blk gg cur e)) a w := fun a w hs => by
    have hi' : (m ++ C.m0)[i]? = some (.own A c n xs e sz) := by rw [List.getElem?_append_left hlt]; exact hi
    have hown : w.ownsRow C.w0.heap.size e sz (.slice A n c) n xs := hs.2.all i _ hi'
    rcases hown.2 with ⟨_, h0⟩ | ⟨gg, cap, cur, hv, hb, hg, hnc, hcm, hcs, htake⟩
    · omega
    · injection hv with h1 h2 h3
      subst h3
      refine ⟨gg, cur.toList, h1, by simpa using hcs, by simpa using htake, hnc, hcm, hs.1, ?_⟩
      rw [← List.set_append_left _ _ hlt]
      refine hs.2.upd hi' ⟨rfl, rfl, rfl, Nat.le_refl _, fun _ _ _ => rfl⟩ ⟨hb, by simpa using hg⟩ (fun k hk => .inl ?_)
      simp only [Res.block] at hk ⊢
      rw [h1]
      exact hk
  unfold WX WL at h ⊢
  intro a w hs
  obtain ⟨gg, cur, h1, h2, h3, h4, h5, hs'⟩ := hu a w hs
  exact h gg cur h1 h2 h3 h4 h5 a w hs'
/-- The cells of a row of structs can be read. -/
theorem Rd.ownN {w0 : World} {m : List Res} {A : Option Addr} {c n sz : Nat} {xs : List Value} {e : TypeId} (i : Nat) (hi : m[i]? = some (.own A c n xs e sz)) : Rd w0 m A xs := by
  unfold Rd
  intro w hw j v hv
  have h := hw.all i _ hi
  cases A with
  | none =>
    rcases h.2 with ⟨h1, h2⟩ | ⟨g, cap, cur, h1, _⟩
    · have := h.1
      rw [h2] at this
      have : xs = [] := List.eq_nil_of_length_eq_zero (by simpa using this)
      subst this
      simp at hv
    · simp at h1
  | some a =>
    refine ⟨a, rfl, ?_⟩
    rcases h.2 with ⟨h1, _⟩ | ⟨g, cap, cur, h1, _⟩
    · simp at h1
    · have e1 : a = ⟨g, 0, none⟩ := by simpa using (by injection h1 : some a = some ⟨g, 0, none⟩)
      subst e1
      exact World.ownsRow.cells h (g := g) rfl j v hv
end
end Go.Gp

/- The contract of layer 15's 'awake'. -/
set_option linter.unusedVariables false
set_option linter.unusedSimpArgs false
namespace Go.Proofs.YtkggplnigjlegaaGreatDoor
open Go.RowKit Go.Gp

abbrev sA : ByteArray := ⟨#[47, 47, 32, 97, 10, 33, 67, 105, 116, 121, 46, 99, 107, 32, 47, 47, 32, 120, 10, 42, 46, 99, 107, 10, 32, 97, 10, 46, 46, 10]⟩
abbrev wA1 : ByteArray := ⟨#[33, 67, 105, 116, 121, 46, 99, 107]⟩
abbrev wA2 : ByteArray := ⟨#[42, 46, 99, 107]⟩
abbrev wA3 : ByteArray := ⟨#[46, 46]⟩
abbrev ckB : ByteArray := ⟨#[99, 107]⟩
abbrev cityB : ByteArray := ⟨#[99, 105, 116, 121]⟩
theorem R32.ofAll {l : List Int} (h : l.all (fun c => decide (-2147483648 ≤ c) && decide (c ≤ 2147483647)) = true) : R32 l := by
  intro i hi
  have h2 := List.all_eq_true.1 h (l.getD i 0) (by simp [hi])
  simp only [Bool.and_eq_true, decide_eq_true_eq] at h2
  exact h2
theorem words_A : wordsP sA = [wA1, wA2, wA3] := by decide +kernel
theorem AllOk.small {l : List Int} (h1 : l.length ≤ 100) (h2 : R32 l) (h3 : (foldP l).length ≤ 150) (h4 : (match allP l with | .ok s => decide (s.size ≤ 800000) | .error _ => true) = true) : AllOk l := by
  refine ⟨by omega, h2, fun _ => short_ok h3, fun s hs => ?_⟩
  rw [hs] at h4
  simpa using h4
theorem parse_A : parseP sA = [([ckB, cityB], true), ([ckB, ⟨#[42]⟩], false)] := by
  unfold parseP
  rw [words_A]
  decide +kernel
theorem ok_A : ∀ w ∈ wordsP sA, w.size ≤ 800000 ∧ AllOk (decUP (nameP w)) := by
  rw [words_A]
  intro w hw
  simp only [List.mem_cons, List.not_mem_nil, or_false] at hw
  rcases hw with rfl | rfl | rfl
  · exact ⟨by decide, AllOk.small (by decide +kernel) (R32.ofAll (by decide +kernel)) (by decide +kernel) (by decide +kernel)⟩
  · exact ⟨by decide, AllOk.small (by decide +kernel) (R32.ofAll (by decide +kernel)) (by decide +kernel) (by decide +kernel)⟩
  · exact ⟨by decide, AllOk.small (by decide +kernel) (R32.ofAll (by decide +kernel)) (by decide +kernel) (by decide +kernel)⟩
theorem labels_A : labelsP ⟨#[97, 46, 98, 46]⟩ = some [⟨#[98]⟩, ⟨#[97]⟩] := by decide +kernel
set_option maxRecDepth 100000 in
theorem awake15_spec (w0 : World) (m0 : List Res) : PureC Tryz.prog 4 [] w0 m0 (.bool true) := by
  refine Ct.of Tryz.func4 rfl (by kernel_rfl) rfl ?_
  (refine c_sq fun k3 h3 => c_rg <| r_as rfl rfl <| r_nx h3 <| c_sq fun k5 h5 => c_rg ?_; rotate_left)
  refine WX.call (m1 := []) (m2 := []) rfl rfl rfl (parse_spec sA (by decide) ok_A _ _) rfl rfl (fun x hx => ?_)
  (refine r_as rfl rfl <| r_nx h5 <| c_sq fun k9 h9 => c_rg ?_)
  rw [parse_A] at hx
  obtain ⟨done, p1, p2⟩ := x
  obtain ⟨b1, b2, rfl⟩ : ∃ b1 b2 : Nat, done = [(b1, [ckB, cityB], true), (b2, [ckB, ⟨#[42]⟩], false)] := by
    dsimp only at hx
    match done, hx with
    | [(b1, l1, e1), (b2, l2, e2)], hx =>
      simp only [List.map_cons, List.map_nil, List.cons.injEq, Prod.mk.injEq, and_true] at hx
      obtain ⟨⟨rfl, rfl⟩, rfl, rfl⟩ := hx
      exact ⟨b1, b2, rfl⟩
  dsimp only [PM]
  refine WX.openN (n := 2) 0 rfl (by decide) (fun gg cur h1 h2 h3 h4 h5 => ?_)
  subst h1
  have hcur : ∃ rest, cur = rulesV [(b1, [ckB, cityB], true), (b2, [ckB, ⟨#[42]⟩], false)] ++ rest := ⟨cur.drop (2 * 2), by rw [← h3]; exact (List.take_append_drop _ _).symm⟩
  obtain ⟨rest, rfl⟩ := hcur
  (rotate_left)
  refine WX.call (m1 := []) (m2 := _) rfl rfl rfl (labels_spec ⟨#[97, 46, 98, 46]⟩ (by decide) _ _) rfl rfl (fun bl _ => ?_)
  rw [labels_A]
  simp only [labV, labM, List.length_cons, List.length_nil, Nat.zero_add, Nat.reduceAdd]
  (refine r_mv rfl rfl <| r_ex rfl rfl rfl <| r_ex rfl rfl rfl <| r_as rfl rfl <| r_as rfl rfl <| r_nx h9 <| c_sq fun k32 h32 => c_rg <| r_mv rfl rfl <| r_ls Tryz.underlying27 rfl rfl <| r_eqT rfl rfl rfl (by omega) <| r_mv rfl rfl <| r_mv rfl rfl ?_; rotate_left)
  refine r_iaN (sz := 2) 0 Tryz.underlying27 (by kernel_rfl) rfl rfl rfl (by decide) (by decide) rfl ?_
  (refine r_fa 1 rfl (fun _ => by kernel_rfl) rfl <| r_lb 1 Tryz.underlying4 rfl rfl rfl rfl rfl <| r_pT rfl rfl rfl <| r_mv rfl rfl <| r_mv rfl rfl ?_; rotate_left)
  refine r_iaN (sz := 2) 0 Tryz.underlying27 (by kernel_rfl) rfl rfl rfl (by decide) (by decide) rfl ?_
  (refine r_fa 0 rfl (fun _ => by kernel_rfl) rfl <| r_lb 1 Tryz.underlying23 rfl rfl rfl rfl rfl <| r_ls Tryz.underlying23 rfl rfl ?_; rotate_left)
  simp only [List.length_cons, List.length_nil, Nat.zero_add, Nat.reduceAdd]
  (refine r_eqT rfl rfl rfl (by omega) <| r_pT rfl rfl rfl <| r_mv rfl rfl <| r_mv rfl rfl ?_; rotate_left)
  refine r_iaN (sz := 2) 0 Tryz.underlying27 (by kernel_rfl) rfl rfl rfl (by decide) (by decide) rfl ?_
  (refine r_fa 0 rfl (fun _ => by kernel_rfl) rfl <| r_lb 1 Tryz.underlying23 rfl rfl rfl rfl rfl ?_; rotate_left)
  simp only [List.length_cons, List.length_nil, Nat.zero_add, Nat.reduceAdd]
  (rotate_left)
  refine r_iaN (sz := 1) 0 Tryz.underlying23 (by kernel_rfl) rfl rfl rfl (by decide) (by decide) rfl ?_
  (refine r_lb 2 Tryz.underlying9 rfl rfl rfl rfl rfl ?_; rotate_left)
  refine r_seq rfl rfl (fun _ => by kernel_rfl) rfl ?_
  rw [decide_eq_true (by first | rfl | decide +kernel)]
  (refine r_pT rfl rfl rfl <| r_mv rfl rfl <| r_mv rfl rfl ?_; rotate_left)
  refine r_iaN (sz := 2) 0 Tryz.underlying27 (by kernel_rfl) rfl rfl rfl (by decide) (by decide) rfl ?_
  (refine r_fa 0 rfl (fun _ => by kernel_rfl) rfl <| r_lb 1 Tryz.underlying23 rfl rfl rfl rfl rfl ?_; rotate_left)
  simp only [List.length_cons, List.length_nil, Nat.zero_add, Nat.reduceAdd]
  refine r_iaN (sz := 1) 1 Tryz.underlying23 (by kernel_rfl) rfl rfl rfl (by decide) (by decide) rfl ?_
  (refine r_lb 2 Tryz.underlying9 rfl rfl rfl rfl rfl ?_; rotate_left)
  refine r_seq rfl rfl (fun _ => by kernel_rfl) rfl ?_
  rw [decide_eq_true (by first | rfl | decide +kernel)]
  (refine r_pT rfl rfl rfl <| r_mv rfl rfl <| r_mv rfl rfl ?_; rotate_left)
  refine r_iaN (sz := 2) 2 Tryz.underlying27 (by kernel_rfl) rfl rfl rfl (by decide) (by decide) rfl ?_
  refine r_lm (cs := ruleV (b2, [ckB, ⟨#[42]⟩], false)) Tryz.underlying32 rfl (by kernel_rfl) rfl rfl (Rd.blk 1 rfl) (fun j v hj => by rcases j with _ | _ | j; exact hj; exact hj; simp at hj) ?_
  (rotate_left)
  refine WX.pure rfl rfl (text_spec (some ⟨b2, 0, none⟩) 2 [ckB, ⟨#[42]⟩] false (by decide) (by decide) _ _ (Rd.blk 3 rfl) (fun _ => rfl)) rfl rfl ?_
  (rotate_left)
  refine r_seq rfl rfl (fun _ => by kernel_rfl) rfl ?_
  rw [decide_eq_true (by first | rfl | decide +kernel)]
  (refine r_pT rfl rfl rfl <| r_mv rfl rfl <| r_mv rfl rfl ?_; rotate_left)
  refine r_iaN (sz := 2) 0 Tryz.underlying27 (by kernel_rfl) rfl rfl rfl (by decide) (by decide) rfl ?_
  refine r_lm (xs := rulesV [(b1, [ckB, cityB], true), (b2, [ckB, ⟨#[42]⟩], false)] ++ rest) (cs := ruleV (b1, [ckB, cityB], true)) Tryz.underlying32 rfl (by kernel_rfl) rfl rfl (Rd.blk 1 rfl) (fun j v hj => by rcases j with _ | _ | j; exact hj; exact hj; simp at hj) ?_
  (rotate_left)
  refine WX.pure rfl rfl (text_spec (some ⟨b1, 0, none⟩) 2 [ckB, cityB] true (by decide) (by decide) _ _ (Rd.blk 2 rfl) (fun _ => rfl)) rfl rfl ?_
  (rotate_left)
  refine r_seq rfl rfl (fun _ => by kernel_rfl) rfl ?_
  rw [decide_eq_true (by first | rfl | decide +kernel)]
  (refine r_pT rfl rfl rfl <| r_mv rfl rfl <| r_mv rfl rfl <| r_pT rfl rfl rfl <| r_mv rfl rfl <| r_mv rfl rfl <| r_ls Tryz.underlying23 rfl rfl <| r_eqT rfl rfl rfl (by omega) <| r_pT rfl rfl rfl <| r_mv rfl rfl <| r_mv rfl rfl ?_; rotate_left)
  refine r_iaN (sz := 1) 0 Tryz.underlying23 (by kernel_rfl) rfl rfl rfl (by decide) (by decide) rfl ?_
  (refine r_lb 0 Tryz.underlying9 rfl rfl rfl rfl rfl ?_; rotate_left)
  refine r_seq rfl rfl (fun _ => by kernel_rfl) rfl ?_
  rw [decide_eq_true (by first | rfl | decide +kernel)]
  (refine r_pT rfl rfl rfl <| r_as rfl rfl <| r_nx h32 <| c_rt ?_; rotate_left)
  exact WE.ret1 () rfl rfl rfl trivial Mem.drop
end Go.Proofs.YtkggplnigjlegaaGreatDoor

/- gatepostref01.Same, gatepostref15.Same at equal lists: the walks. -/
set_option linter.unusedVariables false
set_option linter.unusedSimpArgs false
namespace Go.Gp
open Go.RowKit
section
variable {C : Cx} {Q : Po} {l : List (Nat × Value)} {m : List Res} {ops : Array Oper} {rest : List Oper} {ty : TypeId} {pos : String} {af : Array Edge} {g : Option (Nat × Bool)} {b : Bool} {d : Nat} {x y : Operand} {t : TypeId} {v : Value}
theorem r_lg {bb o : Nat} {xs : List Value} {dd : TypeDesc} (ht : C.P.underlying t = some dd) (h1 : oneTy dd = true) (hx : opv l x = some (.pointer (some ⟨bb, o, none⟩))) (h : okk ops l g d C.n = true) (hr : Rd C.w0 (m ++ C.m0) (some ⟨bb, 0, none⟩) xs) (hv : xs[o]? = some v) (c : WX b C Q ops rest ((d, v) :: l) m) :
    WX b C Q ops (⟨some d, .load t x, ty, pos, af, g⟩ :: rest) l m :=
  WX.q (fun ev hev w hw => by
    have := hr.get hw hv
    simp [execOp, hev x _ hx, Instr.loadAt, Instr.sureAddr, run_loadVar_one ht h1, this]) rfl (okk_1 h) (okk_2 h) rfl c
end
end Go.Gp
namespace Go.Proofs.YtkggplnigjlegaaGreatDoor
open Go.RowKit Go.Gp

set_option maxRecDepth 100000 in
theorem sameS_spec (A B : Option Addr) (c c' : Nat) (l : List ByteArray) (hn : l.length ≤ 1000000) (w0 : World) (m0 : List Res) (hA : Rd w0 m0 A (strsV l)) (hB : Rd w0 m0 B (strsV l)) (hA2 : 0 < l.length → A.isSome = true) (hB2 : 0 < l.length → B.isSome = true) :
    PureC Tryz.prog 10 [.slice A l.length c, .slice B l.length c'] w0 m0 (.bool true) := by
  refine Ct.of Tryz.func10 rfl (by kernel_rfl) rfl ?_
  (refine c_sq fun k13 h13 => c_rg <| r_as rfl rfl <| r_nx h13 <| c_sq fun k15 h15 => c_sq fun k17 h17 => c_rg <| r_mv rfl rfl <| r_ls Tryz.underlying23 rfl rfl <| r_mv rfl rfl <| r_ls Tryz.underlying23 rfl rfl <| r_neF rfl rfl rfl (by omega) <| r_nx h17 <| c_cF rfl <| c_sk <| WE.then_n h15 <| c_sq fun k19 h19 => c_sq fun k21 h21 => c_rg <| r_as rfl rfl <| r_nx h21 <| c_bl ?_; rotate_left)
  refine WC.loop (α := Nat) (fun i => [(0, .slice A l.length c), (1, .slice B l.length c'), (5, .int .i64 (i : Nat))]) (fun _ => []) (fun i => i ≤ l.length) (fun i => l.length - i) 0 (by omega) ⟨rfl, rfl, rfl, trivial⟩ Mem.keep ?_
  intro i hi
  by_cases hlt : i < l.length
  · (refine c_sq fun k26 h26 => c_sq fun k28 h28 => c_rg <| r_mv rfl rfl <| r_mv rfl rfl <| r_ls Tryz.underlying23 rfl rfl <| r_ltT rfl rfl rfl (by omega) <| r_nx h28 <| c_cT rfl <| c_sk <| WE.then_n h26 <| c_sq fun k30 h30 => c_bl <| c_sq fun k32 h32 => c_dr rfl (by kernel_rfl) (by kernel_rfl) <| r_mv rfl rfl <| r_mv rfl rfl <| r_im (hA.app _) Tryz.underlying23 (by kernel_rfl) rfl rfl rfl rfl (by omega) (by omega) <| r_lt (i) (hA.app _) Tryz.underlying9 rfl rfl rfl (by omega) <| r_mv rfl rfl <| r_mv rfl rfl <| r_im (hB.app _) Tryz.underlying23 (by kernel_rfl) rfl rfl rfl rfl (by omega) (by omega) <| r_lt (i) (hB.app _) Tryz.underlying9 rfl rfl rfl (by omega) ?_; rotate_left)
    refine r_sne rfl rfl (fun _ => by kernel_rfl) rfl ?_
    rw [decide_eq_true rfl]
    (refine r_nx h32 <| c_cF rfl <| c_sk <| WE.blk_n <| WE.then_n h30 <| c_rg <| r_mv rfl rfl <| r_ad rfl rfl rfl (wadd64 (by omega)) <| r_as rfl rfl <| r_nl ?_; rotate_left)
    exact WE.back (i + 1) (by omega) (by omega) ⟨rfl, rfl, rfl, trivial⟩ Mem.keep
  · (refine c_sq fun k26 h26 => c_sq fun k28 h28 => c_rg <| r_mv rfl rfl <| r_mv rfl rfl <| r_ls Tryz.underlying23 rfl rfl <| r_ltF rfl rfl rfl (by omega) <| r_nx h28 <| c_cF rfl <| c_ex <| WE.then_x <| WE.then_x <| WE.blk_x <| WE.then_n h19 <| c_sq fun k30 h30 => c_rg <| r_as rfl rfl <| r_nx h30 <| c_rt ?_; rotate_left)
    exact WE.ret1 () rfl rfl rfl trivial Mem.drop
theorem rulesV_at : ∀ (ds : List (Nat × List ByteArray × Bool)) (i : Nat) (d : Nat × List ByteArray × Bool), ds[i]? = some d → (rulesV ds)[2 * i]? = some (.slice (some ⟨d.1, 0, none⟩) d.2.1.length d.2.1.length) ∧ (rulesV ds)[2 * i + 1]? = some (.bool d.2.2)
  | [], i, d, h => by simp at h
  | x :: r, 0, d, h => by
    obtain rfl : x = d := by simpa using h
    exact ⟨rfl, rfl⟩
  | x :: r, i + 1, d, h => by
    have := rulesV_at r i d (by simpa using h)
    have e1 : 2 * (i + 1) = (2 * i) + 1 + 1 := by omega
    have e2 : rulesV (x :: r) = .slice (some ⟨x.1, 0, none⟩) x.2.1.length x.2.1.length :: .bool x.2.2 :: rulesV r := rfl
    rw [e1, e2]
    simpa using this
set_option maxRecDepth 100000 in
theorem sameR_spec (A B : Option Addr) (c c' : Nat) (da db : List (Nat × List ByteArray × Bool)) (h : da.map (·.2) = db.map (·.2)) (hn : da.length ≤ 1000000) (hl : ∀ d ∈ da, d.2.1.length ≤ 1000000) (w0 : World) (m0 : List Res) (hA : Rd w0 m0 A (rulesV da)) (hB : Rd w0 m0 B (rulesV db))
    (hA2 : 0 < da.length → ∃ g, A = some ⟨g, 0, none⟩) (hB2 : 0 < db.length → ∃ g, B = some ⟨g, 0, none⟩) (hla : ∀ d ∈ da, Rd w0 m0 (some ⟨d.1, 0, none⟩) (strsV d.2.1)) (hlb : ∀ d ∈ db, Rd w0 m0 (some ⟨d.1, 0, none⟩) (strsV d.2.1)) :
    PureC Tryz.prog 7 [.slice A da.length c, .slice B db.length c'] w0 m0 (.bool true) := by
  have hlen : db.length = da.length := by have := congrArg List.length h; simpa using this.symm
  rw [hlen]
  rw [hlen] at hB2
  refine Ct.of Tryz.func7 rfl (by kernel_rfl) rfl ?_
  (refine c_sq fun k20 h20 => c_rg <| r_as rfl rfl <| r_nx h20 <| c_sq fun k22 h22 => c_sq fun k24 h24 => c_rg <| r_mv rfl rfl <| r_ls Tryz.underlying27 rfl rfl <| r_mv rfl rfl <| r_ls Tryz.underlying27 rfl rfl <| r_neF rfl rfl rfl (by omega) <| r_nx h24 <| c_cF rfl <| c_sk <| WE.then_n h22 <| c_sq fun k26 h26 => c_sq fun k28 h28 => c_rg <| r_as rfl rfl <| r_nx h28 <| c_bl ?_; rotate_left)
  refine WC.loop (α := Nat) (fun i => [(0, .slice A da.length c), (1, .slice B da.length c'), (5, .int .i64 (i : Nat))]) (fun _ => []) (fun i => i ≤ da.length) (fun i => da.length - i) 0 (by omega) ⟨rfl, rfl, rfl, trivial⟩ Mem.keep ?_
  intro i hi
  by_cases hlt : i < da.length
  · obtain ⟨ga, rfl⟩ := hA2 (by omega)
    obtain ⟨gb, rfl⟩ := hB2 (by omega)
    obtain ⟨⟨b1, ls, ex⟩, hx⟩ : ∃ x, da[i]? = some x := ⟨_, List.getElem?_eq_getElem hlt⟩
    obtain ⟨⟨b2, ls', ex'⟩, hy⟩ : ∃ x, db[i]? = some x := ⟨_, List.getElem?_eq_getElem (by omega)⟩
    have hxy := congrArg (fun l => l[i]?) h
    simp only [List.getElem?_map, hx, hy, Option.map_some] at hxy
    obtain ⟨rfl, rfl⟩ : ls = ls' ∧ ex = ex' := by simpa using hxy
    obtain ⟨hx1, hx2⟩ := rulesV_at da i _ hx
    obtain ⟨hy1, hy2⟩ := rulesV_at db i _ hy
    dsimp only at hx1 hx2 hy1 hy2
    have hLA := hla _ (List.mem_iff_getElem?.2 ⟨i, hx⟩)
    have hLB := hlb _ (List.mem_iff_getElem?.2 ⟨i, hy⟩)
    have hll := hl _ (List.mem_iff_getElem?.2 ⟨i, hx⟩)
    dsimp only at hLA hLB hll
    (refine c_sq fun k53 h53 => c_sq fun k55 h55 => c_rg <| r_mv rfl rfl <| r_mv rfl rfl <| r_ls Tryz.underlying27 rfl rfl <| r_ltT rfl rfl rfl (by omega) <| r_nx h55 <| c_cT rfl <| c_sk <| WE.then_n h53 <| c_sq fun k57 h57 => c_bl <| c_sq fun k59 h59 => c_dr rfl (by kernel_rfl) (by kernel_rfl) <| r_mv rfl rfl <| r_mv rfl rfl ?_; rotate_left)
    refine r_iaN (sz := 2) (2 * i) Tryz.underlying27 (by kernel_rfl) rfl rfl rfl (by omega) (by omega) (by omega) ?_
    refine r_fa (2 * i + 1) rfl (fun w => by kernel_rfl) rfl ?_
    refine r_lg Tryz.underlying4 rfl rfl rfl (hA.app _) hx2 ?_
    (refine r_mv rfl rfl <| r_mv rfl rfl ?_; rotate_left)
    refine r_iaN (sz := 2) (2 * i) Tryz.underlying27 (by kernel_rfl) rfl rfl rfl (by omega) (by omega) (by omega) ?_
    refine r_fa (2 * i + 1) rfl (fun w => by kernel_rfl) rfl ?_
    refine r_lg Tryz.underlying4 rfl rfl rfl (hB.app _) hy2 ?_
    (rotate_left)
    refine r_bk (.bool false) rfl rfl (fun _ => by cases ex <;> kernel_rfl) rfl ?_
    (refine r_mv rfl rfl <| r_mv rfl rfl <| r_mv rfl rfl ?_; rotate_left)
    refine r_iaN (sz := 2) (2 * i) Tryz.underlying27 (by kernel_rfl) rfl rfl rfl (by omega) (by omega) (by omega) ?_
    refine r_fa (2 * i) rfl (fun w => by kernel_rfl) rfl ?_
    refine r_lg Tryz.underlying23 rfl rfl rfl (hA.app _) hx1 ?_
    (refine r_mv rfl rfl <| r_mv rfl rfl ?_; rotate_left)
    refine r_iaN (sz := 2) (2 * i) Tryz.underlying27 (by kernel_rfl) rfl rfl rfl (by omega) (by omega) (by omega) ?_
    refine r_fa (2 * i) rfl (fun w => by kernel_rfl) rfl ?_
    refine r_lg Tryz.underlying23 rfl rfl rfl (hB.app _) hy1 ?_
    (rotate_left)
    refine WX.pure rfl rfl (sameS_spec _ _ _ _ ls hll _ _ (hLA.app _) (hLB.app _) (fun _ => rfl) (fun _ => rfl)) rfl rfl ?_
    (refine r_no rfl rfl rfl <| r_pF rfl rfl rfl <| r_nx h59 <| c_cF rfl <| c_sk <| WE.blk_n <| WE.then_n h57 <| c_rg <| r_mv rfl rfl <| r_ad rfl rfl rfl (wadd64 (by omega)) <| r_as rfl rfl <| r_nl ?_; rotate_left)
    exact WE.back (i + 1) (by omega) (by omega) ⟨rfl, rfl, rfl, trivial⟩ Mem.keep
  · (refine c_sq fun k33 h33 => c_sq fun k35 h35 => c_rg <| r_mv rfl rfl <| r_mv rfl rfl <| r_ls Tryz.underlying27 rfl rfl <| r_ltF rfl rfl rfl (by omega) <| r_nx h35 <| c_cF rfl <| c_ex <| WE.then_x <| WE.then_x <| WE.blk_x <| WE.then_n h26 <| c_sq fun k37 h37 => c_rg <| r_as rfl rfl <| r_nx h37 <| c_rt ?_; rotate_left)
    exact WE.ret1 () rfl rfl rfl trivial Mem.drop
end Go.Proofs.YtkggplnigjlegaaGreatDoor

/- Punycode there and back, in plain Lean: what was told is read as it was. -/
set_option linter.unusedVariables false
namespace Go.Proofs.YtkggplnigjlegaaGreatDoor
open Go.RowKit Go.Gp

theorem dig_read {n : Int} (h : 0 ≤ n) (h2 : n < 36) : valD (lowB (dig n)) = n := by
  have key : ∀ i : Fin 36, valD (lowB (dig (i.1 : Int))) = (i.1 : Int) := by decide +kernel
  have := key ⟨n.toNat, by omega⟩
  simp only at this
  rwa [show ((n.toNat : Nat) : Int) = n by omega] at this
/-- A number told by digits is read as itself. -/
theorem num_read (bias Q0 : Int) (hQ : 35 * Q0 ≤ 1099511627776) (rest : List UInt8) : ∀ (f : Nat) (q : Int) (a : Nat) (i w : Int), 0 ≤ q → q < 10 ^ f → 0 ≤ i → 1 ≤ w → i + q * w = Q0 →
    readL bias (numL bias (f + 1) q (((a : Int) + 1) * 36) ++ rest) a i w = (Q0, (a : Int) + (numL bias (f + 1) q (((a : Int) + 1) * 36)).length) := by
  intro f
  induction f with
  | zero =>
    intro q a i w h1 h2 h3 h4 h6
    have hq : q = 0 := by simp only [Int.pow_zero] at h2; omega
    have ht := thrP_bd (((a : Int) + 1) * 36) bias
    subst hq
    rw [numL, if_pos (by omega)]
    rw [List.cons_append, readL, dig_read (by omega) (by omega), if_neg (by omega), if_pos (by omega), h6]
    rfl
  | succ f ih =>
    intro q a i w h1 h2 h3 h4 h6
    have ht := thrP_bd (((a : Int) + 1) * 36) bias
    have hk : (((a + 1 : Nat) : Int) + 1) * 36 = ((a : Int) + 1) * 36 + 36 := by omega
    have ih' := ih ((q - thrP (((a : Int) + 1) * 36) bias) / (36 - thrP (((a : Int) + 1) * 36) bias)) (a + 1)
    rw [hk] at ih'
    have hqw : 0 ≤ q * w := Int.mul_nonneg h1 (by omega)
    rw [numL]
    by_cases hlt : q < thrP (((a : Int) + 1) * 36) bias
    · rw [if_pos hlt, List.cons_append, readL, dig_read h1 (by omega), if_neg (by omega), if_pos hlt, h6]
      rfl
    · rw [if_neg hlt, List.cons_append, readL]
      generalize thrP (((a : Int) + 1) * 36) bias = T at ht ih' hlt ⊢
      have r1 : 0 ≤ (q - T) % (36 - T) := Int.emod_nonneg _ (by omega)
      have r2 : (q - T) % (36 - T) < 36 - T := Int.emod_lt_of_pos _ (by omega)
      have r3 : 0 ≤ (q - T) / (36 - T) := Int.ediv_nonneg (by omega) (by omega)
      have r4 : (q - T) / (36 - T) < 10 ^ f := by
        rw [Int.pow_succ] at h2
        refine Int.ediv_lt_of_lt_mul (by omega) ?_
        have h0 : (0 : Int) < 10 ^ f := Int.pow_pos (by decide)
        have : 10 ^ f * 10 ≤ 10 ^ f * (36 - T) := Int.mul_le_mul_of_nonneg_left (by omega) (by omega)
        omega
      have r5 := Int.mul_ediv_add_emod (q - T) (36 - T)
      generalize (q - T) % (36 - T) = r at r1 r2 r5 ⊢
      generalize (q - T) / (36 - T) = q1 at r3 r4 r5 ih' ⊢
      rw [dig_read (by omega) (by omega)]
      have e1 : q * w = (T + r) * w + q1 * (w * (36 - T)) := by
        have : q = T + r + q1 * (36 - T) := by rw [Int.mul_comm q1]; omega
        rw [this, Int.add_mul, Int.mul_assoc, Int.mul_comm (36 - T) w]
      have m1 : 0 ≤ (T + r) * w := Int.mul_nonneg (by omega) (by omega)
      have m2 : 0 ≤ q1 * (w * (36 - T)) := Int.mul_nonneg r3 (Int.mul_nonneg (by omega) (by omega))
      have m3 : 1 * w ≤ q * w := Int.mul_le_mul_of_nonneg_right (by omega) (by omega)
      have m4 : w * (36 - T) ≤ w * 35 := Int.mul_le_mul_of_nonneg_left (by omega) (by omega)
      have m5 : w * 10 ≤ w * (36 - T) := Int.mul_le_mul_of_nonneg_left (by omega) (by omega)
      rw [if_neg (by omega), if_neg (by omega), if_neg (by omega), ih' (i + (T + r) * w) (w * (36 - T)) r3 r4 (by omega) (by omega) (by omega)]
      refine Prod.ext rfl ?_
      simp only [List.length_cons]
      omega
theorem num_ne (bias : Int) (f : Nat) (q k : Int) : numL bias (f + 1) q k ≠ [] := by
  rw [numL]
  split <;> simp
/-- One number of a text. -/
theorem num_readP (bias q : Int) (hq : 0 ≤ q) (hQ : 35 * q ≤ 1099511627776) (rest : List UInt8) : readP (strOf (numP q bias ++ rest)) bias = (q, ((numP q bias).length : Int)) := by
  have h10 : (10 : Int) ^ 19 = 10000000000000000000 := by decide +kernel
  have := num_read bias q hQ rest 19 q 0 0 1 hq (by omega) (by omega) (by omega) (by omega)
  unfold readP numP strOf
  simp only
  rw [show ((0 : Nat) : Int) + 1 = 1 from rfl, Int.one_mul] at this
  rw [this]
  simp
theorem strOf_size (l : List UInt8) : (strOf l).size = l.length := by simp [strOf, ByteArray.size]
theorem strOf_ext (x y : List UInt8) : (strOf (x ++ y)).extract x.length (strOf (x ++ y)).size = strOf y := by
  have e : ∀ s t : ByteArray, s.data = t.data → s = t := fun s t h => by cases s; cases t; simp only at h; rw [h]
  apply e
  rw [ByteArray.data_extract]
  apply Array.ext'
  rw [Array.toList_extract, List.extract_eq_take_drop, strOf_size]
  unfold strOf
  simp only [List.length_append, List.drop_left]
  rw [List.take_of_length_le (by omega)]
/-- One step of the reader. -/
theorem dec_step (F : Nat) (q bias : Int) (rest : List UInt8) (D : List Int) (nd i m : Int) (pos : Nat) (hq : 0 ≤ q) (hi : 0 ≤ i) (hQ : 35 * (i + q) ≤ 1099511627776) (hpos : pos ≤ D.length) (he : i + q = (m - nd) * ((D.length : Int) + 1) + pos) (hm : ScP m) :
    decL (F + 1) (strOf (numP q bias ++ rest)) D nd i bias = decL F (strOf rest) (insL D pos m) m ((pos : Int) + 1) (adaptP q ((D.length : Int) + 1) (decide (i = 0))) := by
  have hne : (numP q bias).length ≠ 0 := fun h => num_ne bias 19 q 36 (List.eq_nil_of_length_eq_zero h)
  have hr := num_readP bias q hq (by omega) rest
  have hx := strOf_ext (numP q bias) rest
  have hs : (strOf (numP q bias ++ rest)).size ≠ 0 := by rw [strOf_size, List.length_append]; omega
  have d1 : (i + q) / ((D.length : Int) + 1) = m - nd := by
    rw [he, Int.add_comm, Int.add_mul_ediv_right _ _ (by omega)]
    rw [Int.ediv_eq_zero_of_lt (by omega) (by omega)]
    omega
  have d2 : (i + q) % ((D.length : Int) + 1) = pos := by
    rw [he, Int.add_comm, Int.add_mul_emod_self_right]
    exact Int.emod_eq_of_lt (by omega) (by omega)
  rw [decL, if_neg hs, hr]
  simp only
  rw [if_neg (by omega), d1, d2, show nd + (m - nd) = m by omega, if_neg (by
    intro h
    rcases h with h | h
    · have := hm.1; omega
    · exact h hm)]
  rw [show ((pos : Int)).toNat = pos by omega, show (((numP q bias).length : Nat) : Int).toNat = (numP q bias).length by omega, hx]

/-- A round of the writer, and what the reader makes of it. -/
theorem in_round (m : Int) (hm : ScP m) (basic : Nat) : ∀ (S P : List Int) (delta bias : Int) (h : Nat) (out : List UInt8) (D : List Int) (nd i : Int),
    D = P.filter (fun c => decide (c ≤ m)) ++ S.filter (fun c => decide (c < m)) → h = D.length → delta = (m - nd) * ((h : Int) + 1) + (P.filter (fun c => decide (c ≤ m))).length - i → 0 ≤ delta → 0 ≤ i → (i = 0 ↔ h = basic) → basic ≤ h → 128 ≤ nd → nd ≤ m → (P ++ S).length ≤ 16000 →
    ∃ (t : List UInt8) (delta' bias' nd' i' : Int) (h' k : Nat), encIn m basic S (delta, bias, h, out) = (delta', bias', h', out ++ t) ∧ h' = ((P ++ S).filter (fun c => decide (c ≤ m))).length ∧ delta' = (m - nd') * ((h' : Int) + 1) + h' - i' ∧ 0 ≤ delta' ∧ 0 ≤ i' ∧ (i' = 0 ↔ h' = basic) ∧ basic ≤ h' ∧ 128 ≤ nd' ∧ nd' ≤ m ∧ k ≤ t.length ∧
      ∀ (F : Nat) (rest : List UInt8), decL (F + k) (strOf (t ++ rest)) D nd i bias = decL F (strOf rest) ((P ++ S).filter (fun c => decide (c ≤ m))) nd' i' bias' := by
  intro S
  induction S with
  | nil =>
    intro P delta bias h out D nd i e1 e2 e3 e4 e5 e6 e7 e8 e9 e10
    simp only [List.filter_nil, List.append_nil] at e1 ⊢
    subst e1
    exact ⟨[], delta, bias, nd, i, h, 0, by simp [encIn], e2, by rw [e3, ← e2], e4, e5, e6, e7, e8, e9, by simp, fun F rest => by simp⟩
  | cons c S ih =>
    intro P delta bias h out D nd i e1 e2 e3 e4 e5 e6 e7 e8 e9 e10
    have eP : P ++ c :: S = (P ++ [c]) ++ S := by simp
    rw [eP] at e10 ⊢
    have hstep : encIn m basic (c :: S) (delta, bias, h, out) = encIn m basic S (encStep m basic (delta, bias, h, out) c) := rfl
    rw [hstep]
    unfold encStep
    dsimp only
    by_cases h1 : c < m
    · have hne : c ≠ m := by omega
      rw [if_pos h1, if_neg hne]
      refine ih (P ++ [c]) (delta + 1) bias h out D nd i ?_ e2 ?_ (by omega) e5 e6 e7 e8 e9 e10
      · rw [e1, List.filter_append, List.filter_cons_of_pos (by simpa using h1), List.filter_cons_of_pos (by simp; omega)]
        simp
      · rw [List.filter_append, List.filter_cons_of_pos (by simp; omega), e3]
        simp
        omega
    · rw [if_neg h1]
      by_cases h2 : c = m
      · subst h2
        rw [if_pos rfl]
        have hP : (P.filter (fun x => decide (x ≤ c))).length ≤ D.length := by rw [e1, List.length_append]; omega
        have hD : D.length ≤ 16000 := by
          rw [e1, List.length_append]
          have q1 : (P.filter (fun x => decide (x ≤ c))).length ≤ P.length := List.length_filter_le _ _
          have q2 : ((c :: S).filter (fun x => decide (x < c))).length ≤ (c :: S).length := List.length_filter_le _ _
          simp at e10 q2 ⊢
          omega
        have hmul : (c - nd) * ((h : Int) + 1) ≤ 1114111 * 16001 := Int.mul_le_mul (by have := hm.1; omega) (by omega) (by omega) (by omega)
        have hins : insL D (P.filter (fun x => decide (x ≤ c))).length c = (P ++ [c]).filter (fun x => decide (x ≤ c)) ++ S.filter (fun x => decide (x < c)) := by
          unfold insL
          rw [e1, List.filter_cons_of_neg (by simp), List.take_left, List.drop_left, List.filter_append, List.filter_cons_of_pos (by simp)]
          simp
        have hil : (insL D (P.filter (fun x => decide (x ≤ c))).length c).length = h + 1 := by rw [insL_length _ _ _ hP, e2]
        obtain ⟨t, delta', bias', nd', i', h', k, g1, g2, g3, g4, g5, g6, g7, g8, g9, g10, g11⟩ := ih (P ++ [c]) 0 (adaptP delta ((h : Int) + 1) (decide (h = basic))) (h + 1) (out ++ numP delta bias) (insL D (P.filter (fun x => decide (x ≤ c))).length c) c ((P.filter (fun x => decide (x ≤ c))).length + 1)
          hins hil.symm (by
            rw [List.filter_append, List.filter_cons_of_pos (by simp)]
            simp) (by omega) (by omega) (by omega) (by omega) (by omega) (by omega) e10
        refine ⟨numP delta bias ++ t, delta', bias', nd', i', h', k + 1, by rw [g1, List.append_assoc], g2, g3, g4, g5, g6, g7, g8, g9, ?_, ?_⟩
        · have : (numP delta bias).length ≠ 0 := fun h => num_ne bias 19 delta 36 (List.eq_nil_of_length_eq_zero h)
          rw [List.length_append]
          omega
        · intro F rest
          rw [List.append_assoc, ← Nat.add_assoc, dec_step (F + k) delta bias (t ++ rest) D nd i c (P.filter (fun x => decide (x ≤ c))).length e4 e5 (by omega) hP (by rw [← e2]; omega) hm]
          have eb : adaptP delta ((D.length : Int) + 1) (decide (i = 0)) = adaptP delta ((h : Int) + 1) (decide (h = basic)) := by rw [← e2, decide_eq_decide.2 e6]
          rw [eb]
          exact g11 F rest
      · rw [if_neg h2]
        refine ih (P ++ [c]) delta bias h out D nd i ?_ e2 ?_ e4 e5 e6 e7 e8 e9 e10
        · rw [e1, List.filter_append, List.filter_cons_of_neg (by simpa using h1), List.filter_cons_of_neg (l := []) (by simp; omega)]
          simp
        · rw [List.filter_append, List.filter_cons_of_neg (by simp; omega), e3]
          simp

/-- All the rounds. -/
theorem out_rounds (l : List Int) (basic : Nat) (hl : Sc l) (hn : l.length ≤ 16000) : ∀ (f : Nat) (n delta bias : Int) (h : Nat) (out : List UInt8) (nd i : Int),
    h = (l.filter (fun c => decide (c < n))).length → delta = (n - nd) * ((h : Int) + 1) - i → 0 ≤ delta → 0 ≤ i → (i = 0 ↔ h = basic) → basic ≤ h → 128 ≤ nd → nd ≤ n → l.length < f + h →
    ∃ (t : List UInt8) (k : Nat), encOut l basic f n (delta, bias, h, out) = out ++ t ∧ k ≤ t.length ∧ ∀ F : Nat, decL (F + k + 1) (strOf t) (l.filter (fun c => decide (c < n))) nd i bias = some l := by
  have hmx : ∀ x ∈ l, x ≤ 1114111 := fun x hx => (hl x hx).1.2
  intro f
  induction f with
  | zero =>
    intro n delta bias h out nd i e1 e2 e3 e4 e5 e6 e7 e8 e9
    have : (l.filter (fun c => decide (c < n))).length ≤ l.length := List.length_filter_le _ _
    omega
  | succ f ih =>
    intro n delta bias h out nd i e1 e2 e3 e4 e5 e6 e7 e8 e9
    have hle : (l.filter (fun c => decide (c < n))).length ≤ l.length := List.length_filter_le _ _
    rw [encOut]
    dsimp only
    by_cases hlt : h < l.length
    · rw [if_pos hlt]
      have hb : below n l < l.length := by unfold below; rw [List.countP_eq_length_filter]; omega
      obtain ⟨hm1, hm2⟩ := minGe_mem hmx hb
      have hmS := hl _ hm1
      have hfil : l.filter (fun c => decide (c < minGe n l)) = l.filter (fun c => decide (c < n)) := by
        have := minGe_props n l hmx
        refine List.filter_congr fun c hc => ?_
        rw [decide_eq_decide]
        constructor
        · intro h5
          refine Classical.byContradiction fun h6 => ?_
          have := this.2.1 c hc (by omega)
          omega
        · intro h5; omega
      have hle2 : ∀ m : Int, l.filter (fun c => decide (c ≤ m)) = l.filter (fun c => decide (c < m + 1)) := fun m => List.filter_congr fun c _ => by rw [decide_eq_decide]; omega
      have q0 : 0 ≤ (minGe n l - n) * ((h : Int) + 1) := Int.mul_nonneg (by omega) (by omega)
      have q1 : (minGe n l - nd) * ((h : Int) + 1) = (n - nd) * ((h : Int) + 1) + (minGe n l - n) * ((h : Int) + 1) := by rw [← Int.add_mul]; congr 1; omega
      obtain ⟨t, delta', bias', nd', i', h', k, g1, g2, g3, g4, g5, g6, g7, g8, g9, g10, g11⟩ := in_round (minGe n l) hmS basic l [] (delta + (minGe n l - n) * ((h : Int) + 1)) bias h out (l.filter (fun c => decide (c < n))) nd i
        (by rw [hfil]; simp) e1 (by rw [q1]; simp; omega) (by omega) e4 e5 e6 e7 (by omega) (by simpa using hn)
      have hcnt : h < h' := by
        rw [g2, e1, ← hfil, List.nil_append, ← List.countP_eq_length_filter, ← List.countP_eq_length_filter]
        have hb2 := below_succ (minGe n l) l
        have hpos : 0 < l.countP (fun c => decide (c = minGe n l)) := List.countP_pos_iff.2 ⟨_, hm1, by simp⟩
        unfold below at hb2
        have : l.countP (fun c => decide (c ≤ minGe n l)) = l.countP (fun c => decide (c < minGe n l + 1)) := List.countP_congr fun c _ => by simp only [decide_eq_true_eq]; omega
        omega
      have hround : encRound l basic n (delta, bias, h, out) = (delta', bias', h', out ++ t) := g1
      rw [hround]
      rw [List.nil_append, hle2] at g2 g11
      have q2 : (minGe n l + 1 - nd') * ((h' : Int) + 1) = (minGe n l - nd') * ((h' : Int) + 1) + ((h' : Int) + 1) := by rw [show minGe n l + 1 - nd' = (minGe n l - nd') + 1 by omega, Int.add_mul, Int.one_mul]
      obtain ⟨t2, k2, j1, j2, j3⟩ := ih (minGe n l + 1) (delta' + 1) bias' h' (out ++ t) nd' i' g2 (by rw [q2, g3]; omega) (by omega) g5 g6 g7 g8 (by omega) (by omega)
      refine ⟨t ++ t2, k2 + k, by rw [j1, List.append_assoc], by rw [List.length_append]; omega, fun F => ?_⟩
      rw [show F + (k2 + k) + 1 = (F + k2 + 1) + k by omega, g11 (F + k2 + 1) t2]
      exact j3 F
    · rw [if_neg hlt]
      have hall : l.filter (fun c => decide (c < n)) = l := by
        have := List.filter_sublist (l := l) (p := fun c => decide (c < n))
        exact this.eq_of_length (by omega)
      refine ⟨[], 0, by simp, by simp, fun F => ?_⟩
      rw [hall, decL, if_pos (by rw [strOf_size]; rfl)]
theorem dig_facts {n : Int} (h : 0 ≤ n) (h2 : n < 36) : (97 ≤ (dig n).toNat ∧ (dig n).toNat ≤ 122) ∨ (48 ≤ (dig n).toNat ∧ (dig n).toNat ≤ 57) := by
  have key : ∀ i : Fin 36, (97 ≤ (dig (i.1 : Int)).toNat ∧ (dig (i.1 : Int)).toNat ≤ 122) ∨ (48 ≤ (dig (i.1 : Int)).toNat ∧ (dig (i.1 : Int)).toNat ≤ 57) := by decide +kernel
  have := key ⟨n.toNat, by omega⟩
  simp only at this
  rwa [show ((n.toNat : Nat) : Int) = n by omega] at this
/-- A letter or a figure. -/
abbrev LF (b : UInt8) : Prop := (97 ≤ b.toNat ∧ b.toNat ≤ 122) ∨ (48 ≤ b.toNat ∧ b.toNat ≤ 57)
theorem numL_LF (bias : Int) : ∀ (f : Nat) (q k : Int), 0 ≤ q → ∀ b ∈ numL bias f q k, LF b
  | 0, _, _, _ => by simp [numL]
  | f + 1, q, k, hq => by
    have ht := thrP_bd k bias
    rw [numL]
    split
    · intro b hb
      rw [List.mem_singleton] at hb
      rw [hb]
      exact dig_facts hq (by omega)
    · intro b hb
      have r1 : 0 ≤ (q - thrP k bias) % (36 - thrP k bias) := Int.emod_nonneg _ (by omega)
      have r2 : (q - thrP k bias) % (36 - thrP k bias) < 36 - thrP k bias := Int.emod_lt_of_pos _ (by omega)
      rcases List.mem_cons.1 hb with hb | hb
      · rw [hb]
        exact dig_facts (by omega) (by omega)
      · exact numL_LF bias f _ _ (Int.ediv_nonneg (by omega) (by omega)) b hb
/-- What a round writes: letters and figures. -/
theorem encIn_LF (m : Int) (basic : Nat) : ∀ (S : List Int) (s : ES), 0 ≤ s.1 → 0 ≤ (encIn m basic S s).1 ∧ ∃ t, (encIn m basic S s).2.2.2 = s.2.2.2 ++ t ∧ (∀ b ∈ t, LF b) ∧ t.length ≤ 20 * S.countP (fun c => decide (c = m)) ∧ (encIn m basic S s).2.2.1 = s.2.2.1 + S.countP (fun c => decide (c = m))
  | [], s, h => ⟨by simpa [encIn] using h, [], by simp [encIn], by simp, by simp, by simp [encIn]⟩
  | c :: S, s, h => by
    have e : encIn m basic (c :: S) s = encIn m basic S (encStep m basic s c) := rfl
    rw [e]
    have hd : 0 ≤ (if c < m then s.1 + 1 else s.1) := by split <;> omega
    have hs : 0 ≤ (encStep m basic s c).1 ∧ (c = m → (encStep m basic s c).2.2.2 = s.2.2.2 ++ numP (if c < m then s.1 + 1 else s.1) s.2.1 ∧ (encStep m basic s c).2.2.1 = s.2.2.1 + 1) ∧ (c ≠ m → (encStep m basic s c).2.2.2 = s.2.2.2 ∧ (encStep m basic s c).2.2.1 = s.2.2.1) := by
      unfold encStep
      dsimp only
      by_cases hc : c = m
      · rw [if_pos hc]
        exact ⟨by dsimp only; omega, fun _ => ⟨rfl, rfl⟩, fun h => absurd hc h⟩
      · rw [if_neg hc]
        exact ⟨hd, fun h => absurd h hc, fun _ => ⟨rfl, rfl⟩⟩
    obtain ⟨i1, t, i2, i3, i4, i5⟩ := encIn_LF m basic S (encStep m basic s c) hs.1
    refine ⟨i1, ?_⟩
    by_cases hc : c = m
    · obtain ⟨h1, h2⟩ := hs.2.1 hc
      have hl := numL_len s.2.1 20 (if c < m then s.1 + 1 else s.1) 36
      have ec : (c :: S).countP (fun c => decide (c = m)) = S.countP (fun c => decide (c = m)) + 1 := by rw [List.countP_cons]; simp [hc]
      refine ⟨numP (if c < m then s.1 + 1 else s.1) s.2.1 ++ t, by rw [i2, h1, List.append_assoc], fun b hb => ?_, ?_, by rw [i5, h2, ec]; omega⟩
      · rcases List.mem_append.1 hb with hb | hb
        · exact numL_LF _ _ _ _ hd b hb
        · exact i3 b hb
      · rw [List.length_append, ec]
        unfold numP
        omega
    · obtain ⟨h1, h2⟩ := hs.2.2 hc
      have ec : (c :: S).countP (fun c => decide (c = m)) = S.countP (fun c => decide (c = m)) := by rw [List.countP_cons]; simp [hc]
      exact ⟨t, by rw [i2, h1], i3, by rw [ec]; exact i4, by rw [i5, h2, ec]⟩
theorem encOut_LF (l : List Int) (basic : Nat) (hl : ∀ c ∈ l, c ≤ 1114111) : ∀ (f : Nat) (n : Int) (s : ES), 0 ≤ s.1 → s.2.2.1 = below n l → ∃ t, encOut l basic f n s = s.2.2.2 ++ t ∧ (∀ b ∈ t, LF b) ∧ t.length + 20 * s.2.2.1 ≤ 20 * l.length
  | 0, n, s, h, h2 => ⟨[], by simp [encOut], by simp, by
      have : below n l ≤ l.length := List.countP_le_length
      simp; omega⟩
  | f + 1, n, s, h, h2 => by
    have hb : below n l ≤ l.length := List.countP_le_length
    rw [encOut]
    by_cases hlt : s.2.2.1 < l.length
    · rw [if_pos hlt]
      obtain ⟨hm1, hm2⟩ := minGe_mem hl (n := n) (by omega)
      have q0 : 0 ≤ (minGe n l - n) * ((s.2.2.1 : Int) + 1) := Int.mul_nonneg (by omega) (by omega)
      obtain ⟨i1, t, i2, i3, i4, i5⟩ := encIn_LF (minGe n l) basic l (s.1 + (minGe n l - n) * (s.2.2.1 + 1), s.2.1, s.2.2.1, s.2.2.2) (by dsimp only; omega)
      have eR : encRound l basic n s = encIn (minGe n l) basic l (s.1 + (minGe n l - n) * (s.2.2.1 + 1), s.2.1, s.2.2.1, s.2.2.2) := rfl
      rw [eR]
      generalize encIn (minGe n l) basic l (s.1 + (minGe n l - n) * (s.2.2.1 + 1), s.2.1, s.2.2.1, s.2.2.2) = r at i1 i2 i5 ⊢
      dsimp only at i2 i5
      have hbs := below_succ (minGe n l) l
      rw [below_min hl hm2, ← h2] at hbs
      obtain ⟨t2, j1, j2, j3⟩ := encOut_LF l basic hl f (minGe n l + 1) (r.1 + 1, r.2) (by dsimp only; omega) (by dsimp only; omega)
      dsimp only at j1 j3
      refine ⟨t ++ t2, by rw [j1, i2, List.append_assoc], fun b hb => ?_, by rw [List.length_append]; omega⟩
      rcases List.mem_append.1 hb with hb | hb
      · exact i3 b hb
      · exact j2 b hb
    · rw [if_neg hlt]
      exact ⟨[], by simp, by simp, by simp; omega⟩
end Go.Proofs.YtkggplnigjlegaaGreatDoor

/- The plain law of LabelOnce: what a name is told as is told as itself, in letters below 128, none of them a capital one. -/
set_option linter.unusedVariables false
namespace Go.Proofs.YtkggplnigjlegaaGreatDoor
open Go.RowKit Go.Gp

theorem lastL_eq (L : List UInt8) (c : UInt8) (j : Nat) (hj : L.getD j 0 = c) : ∀ k, j < k → (∀ i, j < i → i < k → L.getD i 0 ≠ c) → lastL L c k = j
  | 0, h, _ => by omega
  | k + 1, h, hn => by
    rw [lastL]
    by_cases e : j = k
    · subst e; rw [if_pos hj]
    · rw [if_neg (hn k (by omega) (by omega))]
      exact lastL_eq L c j hj k (by omega) (fun i h1 h2 => hn i h1 (by omega))
theorem lastL_none (L : List UInt8) (c : UInt8) : ∀ k, (∀ i, i < k → L.getD i 0 ≠ c) → lastL L c k = -1
  | 0, _ => rfl
  | k + 1, hn => by
    rw [lastL, if_neg (hn k (by omega))]
    exact lastL_none L c k (fun i h => hn i (by omega))
theorem LF_ne {b : UInt8} (h : LF b) : b ≠ 45 ∧ b ≠ 46 ∧ b.toNat < 128 ∧ ¬ (65 ≤ b.toNat ∧ b.toNat ≤ 90) := by
  refine ⟨fun e => ?_, fun e => ?_, by omega, by omega⟩
  · subst e; revert h; decide
  · subst e; revert h; decide
theorem basics_mem {l : List Int} (hl : Sc l) {b : UInt8} (hb : b ∈ basics l) : ∃ c ∈ l, c < 128 ∧ (b.toNat : Int) = c := by
  unfold basics at hb
  obtain ⟨c, hc, rfl⟩ := List.mem_map.1 hb
  have h1 := List.mem_filter.1 hc
  have h2 : c < 128 := by simpa using h1.2
  have h3 := (hl c h1.1).1.1
  exact ⟨c, h1.1, h2, b8_toNat h3 (by omega)⟩
/-- What is written, in two parts. -/
theorem encP_parts {l : List Int} (hl : Sc l) (hn : l.length ≤ 16000) : ∃ t : List UInt8, encP l = (if 0 < (basics l).length then basics l ++ [45] else []) ++ t ∧ (∀ b ∈ t, LF b) ∧ t.length ≤ 20 * l.length ∧
    ∃ k, k ≤ t.length ∧ ∀ F : Nat, decL (F + k + 1) (strOf t) (l.filter (fun c => decide (c < 128))) 128 0 72 = some l := by
  have hmx : ∀ x ∈ l, x ≤ 1114111 := fun x hx => (hl x hx).1.2
  have hb := basics_length l
  have hb2 : (l.filter (fun c => decide (c < 128))).length = (basics l).length := by rw [hb, List.countP_eq_length_filter]
  obtain ⟨t, k, h1, h2, h3⟩ := out_rounds l (basics l).length hl hn (l.length + 1) 128 0 72 (basics l).length (if 0 < (basics l).length then basics l ++ [45] else []) 128 0 hb2.symm (by omega) (by omega) (by omega) (by simp) (by omega) (by omega) (by omega) (by omega)
  obtain ⟨t2, g1, g2, g3⟩ := encOut_LF l (basics l).length hmx (l.length + 1) 128 (0, 72, (basics l).length, if 0 < (basics l).length then basics l ++ [45] else []) (Int.le_refl 0) (by rw [hb]; rfl)
  have e : t = t2 := List.append_cancel_left (h1.symm.trans g1)
  subst e
  exact ⟨t, h1, g2, by omega, k, h2, h3⟩
theorem getD_app_r (x y : List UInt8) (i : Nat) (h : x.length ≤ i) : (x ++ y).getD i 0 = y.getD (i - x.length) 0 := by
  rw [List.getD_eq_getElem?_getD, List.getD_eq_getElem?_getD, List.getElem?_append_right h]
theorem getD_mem (y : List UInt8) (i : Nat) (h : i < y.length) : y.getD i 0 ∈ y := by
  rw [List.getD_eq_getElem?_getD, List.getElem?_eq_getElem h]
  exact List.getElem_mem _
/-- PUNYCODE THERE AND BACK. -/
theorem puny_round {l : List Int} (hl : Sc l) (hn : l.length ≤ 16000) : decP (strOf (encP l)) = some l := by
  obtain ⟨t, h1, h2, h3, k, h4, h5⟩ := encP_parts hl hn
  have hany : ∀ b ∈ encP l, b.toNat < 128 := by
    intro b hb
    rw [h1] at hb
    rcases List.mem_append.1 hb with hb | hb
    · split at hb
      · rcases List.mem_append.1 hb with hb | hb
        · obtain ⟨c, _, c2, c3⟩ := basics_mem hl hb
          omega
        · rw [List.mem_singleton] at hb; subst hb; decide
      · simp at hb
    · exact (LF_ne (h2 b hb)).2.2.1
  have hd : (strOf (encP l)).data.toList = encP l := by simp [strOf]
  have hs := strOf_size (encP l)
  unfold decP
  rw [hd, if_neg (by
    rw [Bool.not_eq_true, List.any_eq_false]
    intro b hb
    have := hany b hb
    simp; omega)]
  by_cases h0 : 0 < (basics l).length
  · rw [if_pos h0] at h1
    have hla : lastL (encP l) 45 (strOf (encP l)).size = ((basics l).length : Int) := by
      refine lastL_eq _ _ _ ?_ _ ?_ ?_
      · rw [h1, List.append_assoc, getD_app_r _ _ _ (Nat.le_refl _), Nat.sub_self]
        rfl
      · rw [hs, h1]; simp
      · intro i hi1 hi2 e
        rw [h1, getD_app_r _ _ _ (by simp; omega)] at e
        rw [hs, h1] at hi2
        have hm : t.getD (i - (basics l ++ [45]).length) 0 ∈ t := getD_mem _ _ (by simp at hi2 ⊢; omega)
        rw [e] at hm
        exact (LF_ne (h2 _ hm)).1 rfl
    rw [hla, if_pos (by omega)]
    have e1 : (strOf (encP l)).extract (((basics l).length : Int) + 1).toNat (strOf (encP l)).size = strOf t := by
      have := strOf_ext (basics l ++ [45]) t
      rw [← h1] at this
      rw [show (((basics l).length : Int) + 1).toNat = (basics l ++ [45]).length by simp]
      exact this
    have e2 : asc ((strOf (encP l)).extract 0 (((basics l).length : Nat) : Int).toNat) = l.filter (fun c => decide (c < 128)) := by
      unfold asc
      rw [ByteArray.data_extract, Array.toList_extract, List.extract_eq_take_drop, hd, h1, List.append_assoc]
      simp only [Int.toNat_natCast, Nat.sub_zero, List.drop_zero, List.take_left]
      unfold basics
      rw [List.map_map]
      refine (List.map_congr_left fun c hc => ?_).trans (List.map_id _)
      have h1 := List.mem_filter.1 hc
      have h2 : c < 128 := by simpa using h1.2
      exact b8_toNat (hl c h1.1).1.1 (by omega)
    rw [e1, e2, show (strOf (encP l)).size + 1 = ((strOf (encP l)).size - k) + k + 1 by
      have : t.length ≤ (strOf (encP l)).size := by rw [hs, h1]; simp; omega
      omega]
    exact h5 _
  · rw [if_neg h0, List.nil_append] at h1
    have hla : lastL (encP l) 45 (strOf (encP l)).size = -1 := by
      refine lastL_none _ _ _ ?_
      intro i hi e
      rw [hs, h1] at hi
      have hm : t.getD i 0 ∈ t := getD_mem _ _ hi
      rw [h1] at e
      rw [e] at hm
      exact (LF_ne (h2 _ hm)).1 rfl
    have hf : l.filter (fun c => decide (c < 128)) = [] := List.eq_nil_of_length_eq_zero (by
      have hb := basics_length l
      rw [List.countP_eq_length_filter] at hb
      omega)
    rw [hf] at h5
    rw [hla, if_neg (by omega), h1, show (strOf t).size + 1 = ((strOf t).size - k) + k + 1 by
      have := strOf_size t
      omega]
    exact h5 _

/-! ### Plain letters -/
theorem enc_low {c : Int} (h0 : 0 ≤ c) (h : c < 128) : Utf8.encode c = ⟨#[b8 c]⟩ := by
  have hv : Utf8.valid c = true := by
    unfold Utf8.valid
    simp
    omega
  unfold Utf8.encode b8
  simp only [hv, if_true]
  rw [if_pos (by omega)]
theorem rb_low : ∀ l : List Int, (∀ x ∈ l, 0 ≤ x ∧ x < 128) → runesBytes l = strOf (l.map b8) := by
  have key : ∀ n (l : List Int), l.length = n → (∀ x ∈ l, 0 ≤ x ∧ x < 128) → runesBytes l = strOf (l.map b8) := by
    intro n
    induction n with
    | zero =>
      intro l hn _
      have : l = [] := List.eq_nil_of_length_eq_zero hn
      subst this
      rfl
    | succ n ih =>
      intro l hn hl
      rcases List.eq_nil_or_concat l with rfl | ⟨t, u, rfl⟩
      · simp at hn
      · rw [List.concat_eq_append] at hn hl ⊢
        have hu := hl u (by simp)
        have e : runesBytes (t ++ [u]) = runesBytes t ++ Utf8.encode u := by simp [runesBytes]
        rw [e, ih t (by simpa using hn) (fun x hx => hl x (by simp [hx])), enc_low hu.1 hu.2]
        apply ba_ext
        simp [strOf]
  exact fun l => key l.length l rfl
theorem asc_strOf (l : List Int) (h : ∀ x ∈ l, 0 ≤ x ∧ x < 128) : asc (strOf (l.map b8)) = l := by
  unfold asc strOf
  simp only [List.map_map]
  refine (List.map_congr_left fun c hc => ?_).trans (List.map_id _)
  have := h c hc
  exact b8_toNat this.1 (by omega)
theorem b8_of (b : UInt8) : b8 (b.toNat : Int) = b := by
  unfold b8
  simp
theorem rb_asc (s : ByteArray) (h : ∀ b ∈ s.data.toList, b.toNat < 128) : runesBytes (asc s) = s := by
  rw [rb_low _ (fun x hx => by
    unfold asc at hx
    obtain ⟨b, hb, rfl⟩ := List.mem_map.1 hx
    have := h b hb
    omega)]
  apply ba_ext
  unfold asc strOf
  simp only [List.map_map]
  refine (List.map_congr_left fun b _ => ?_).trans (List.map_id _)
  exact b8_of b
/-- A plain letter, no capital one. -/
abbrev Lw (b : UInt8) : Prop := b.toNat < 128 ∧ ¬ (65 ≤ b.toNat ∧ b.toNat ≤ 90)
theorem lw_fx {b : UInt8} (h : Lw b) : Fx (b.toNat : Int) := by
  refine ⟨?_, ?_, ?_, ?_, ?_, ?_, ?_⟩ <;> omega

/-! ### Parts -/
theorem splitP_mem (l : List Int) : ∀ p ∈ splitP 46 l, ∀ x ∈ p, x ≠ 46 := by
  induction l with
  | nil => simp [splitP]
  | cons c l ih =>
    rw [splitP]
    split
    · intro p hp
      rcases List.mem_cons.1 hp with hp | hp
      · subst hp; simp
      · exact ih p hp
    · rename_i hc
      cases hs : splitP 46 l with
      | nil => exact absurd hs (splitP_ne 46 l)
      | cons q qs =>
        rw [hs] at ih
        intro p hp x hx
        rcases List.mem_cons.1 hp with hp | hp
        · subst hp
          rcases List.mem_cons.1 hx with hx | hx
          · subst hx; exact fun e => hc e.symm
          · exact ih q (by simp) x hx
        · exact ih p (by simp [hp]) x hx
theorem splitP_comp (l : List Int) (h : compR l = l) : ∀ p ∈ splitP 46 l, compR p = p := by
  have key : ∀ n (l : List Int), l.length = n → compR l = l → ∀ p ∈ splitP 46 l, compR p = p := by
    intro n
    induction n using Nat.strongRecOn with
    | _ n ih =>
      intro l hn h p hp
      by_cases hi : idxP 46 l < 0
      · rw [splitP_no 46 l hi, List.mem_singleton] at hp
        rw [hp]; exact h
      · obtain ⟨hk, hs⟩ := splitP_at 46 l (by omega)
        have e46 : l.getD (idxP 46 l).toNat 0 = 46 := by
          unfold idxP findFrom at hi ⊢
          cases hf : l.findIdx? (fun c => decide (46 = c)) with
          | none => rw [hf] at hi; simp at hi
          | some i =>
            obtain ⟨g1, g2, _⟩ := List.findIdx?_eq_some_iff_getElem.1 hf
            simp only [Int.toNat_natCast]
            rw [List.getD_eq_getElem?_getD, List.getElem?_eq_getElem g1]
            have : 46 = l[i] := by simpa using g2
            exact this.symm
        generalize (idxP 46 l).toNat = k at hk hs e46
        have el : l = l.take k ++ [46] ++ l.drop (k + 1) := by
          conv => lhs; rw [← List.take_append_drop k l]
          rw [List.append_assoc]
          congr 1
          rw [List.drop_eq_getElem_cons hk]
          rw [List.getD_eq_getElem?_getD, List.getElem?_eq_getElem hk] at e46
          rw [show l[k] = 46 from e46]
          rfl
        have hc : compR (l.take k ++ [46] ++ l.drop (k + 1)) = compR (l.take k) ++ [46] ++ compR (l.drop (k + 1)) := by
          unfold compR
          rw [List.foldl_append, List.foldl_append]
          simp only [List.foldl_cons, List.foldl_nil]
          rw [addR_low _ (by omega), foldl_dot]
        rw [← el, h] at hc
        have l1 := compR_length (l.take k)
        have l2 := compR_length (l.drop (k + 1))
        have l3 : l.length = (compR (l.take k)).length + 1 + (compR (l.drop (k + 1))).length := by
          conv => lhs; rw [hc]
          simp
          omega
        have l4 : (l.take k).length = k := by simp; omega
        have l5 : (l.drop (k + 1)).length = l.length - (k + 1) := by simp
        have heq : l.take k ++ ([46] ++ l.drop (k + 1)) = compR (l.take k) ++ ([46] ++ compR (l.drop (k + 1))) := by
          rw [← List.append_assoc, ← List.append_assoc, ← el]; exact hc
        obtain ⟨a1, a2⟩ := List.append_inj heq (by omega)
        rw [hs] at hp
        rcases List.mem_cons.1 hp with hp | hp
        · rw [hp]; exact a1.symm
        · have a3 : l.drop (k + 1) = compR (l.drop (k + 1)) := by simpa using a2
          exact ih (l.drop (k + 1)).length (by omega) _ rfl a3.symm p hp
  exact key l.length l rfl h
/-- One part: what it is told as, and what that is told as. -/
theorem one_once {p : List Int} {t : ByteArray} (h : oneP p = some t) (hfx : ∀ x ∈ p, Fx x ∧ x ≠ 46) (hc : compR p = p) (hn : p.length ≤ 700) :
    (∀ b ∈ t.data.toList, Lw b ∧ b ≠ 46) ∧ oneP (asc t) = some t ∧ t.size ≤ 21 * p.length + 5 := by
  have h0 := h
  unfold oneP at h
  split at h
  · cases h
  · rename_i hsc
    have hSc : Sc p := fun x hx => by
      have h2 := List.any_eq_false.1 ((Bool.not_eq_true _).mp hsc) x hx
      exact Classical.byContradiction fun hn => h2 (by rw [decide_eq_false hn]; rfl)
    have plain : p.any (fun c => decide (128 ≤ c)) = false → t = runesBytes p → (∀ b ∈ t.data.toList, Lw b ∧ b ≠ 46) ∧ oneP (asc t) = some t ∧ t.size ≤ 21 * p.length + 5 := by
      intro hp ht
      have hlo : ∀ x ∈ p, 0 ≤ x ∧ x < 128 := fun x hx => by
        have h2 := List.any_eq_false.1 hp x hx
        simp at h2
        exact ⟨(hSc x hx).1.1, h2⟩
      rw [rb_low p hlo] at ht
      have hasc := asc_strOf p hlo
      rw [← ht] at hasc
      refine ⟨fun b hb => ?_, by rw [hasc]; exact h0, by rw [ht, strOf_size]; simp; omega⟩
      rw [ht] at hb
      unfold strOf at hb
      simp only [List.mem_map] at hb
      obtain ⟨x, hx, rfl⟩ := hb
      have hx2 := hlo x hx
      have hv := b8_toNat hx2.1 (by omega)
      obtain ⟨f1, f2⟩ := hfx x hx
      obtain ⟨_, _, _, _, f3, _, _⟩ := f1
      refine ⟨⟨by omega, by omega⟩, fun e => f2 ?_⟩
      rw [← hv, e]
      rfl
    split at h
    · split at h
      · cases h
      · rename_i hpl
        split at h
        · cases h
        · split at h
          · injection h with h
            exact plain (by simpa using hpl) h.symm
          · cases h
    · split at h
      · rename_i hodd
        split at h
        · cases h
        · rename_i hmk
          injection h with h
          obtain ⟨u, h1, h2, h3, _⟩ := encP_parts hSc (by omega)
          have henc : ∀ b ∈ encP p, Lw b ∧ b ≠ 46 := by
            intro b hb
            rw [h1] at hb
            rcases List.mem_append.1 hb with hb | hb
            · split at hb
              · rcases List.mem_append.1 hb with hb | hb
                · obtain ⟨c, c1, c2, c3⟩ := basics_mem hSc hb
                  obtain ⟨f1, f2⟩ := hfx c c1
                  obtain ⟨_, _, _, _, f3, _, _⟩ := f1
                  refine ⟨⟨by omega, by omega⟩, fun e => f2 ?_⟩
                  rw [← c3, e]
                  rfl
                · rw [List.mem_singleton] at hb; subst hb; decide
              · simp at hb
            · have := LF_ne (h2 b hb)
              exact ⟨⟨this.2.2.1, this.2.2.2⟩, this.2.1⟩
          have hbl : (basics p).length ≤ p.length := by rw [basics_length]; exact List.countP_le_length
          have hel : (encP p).length ≤ 21 * p.length + 1 := by
            rw [h1, List.length_append]
            split
            · simp; omega
            · simp; omega
          have hdl : t.data.toList = [120, 110, 45, 45] ++ encP p := by
            rw [← h, ByteArray.data_append, Array.toList_append]
            simp [strOf, aceB]
          have hst : t = strOf ([120, 110, 45, 45] ++ encP p) := by
            apply ba_ext
            rw [hdl]
            simp [strOf]
          have hall : ∀ b ∈ t.data.toList, Lw b ∧ b ≠ 46 := by
            intro b hb
            rw [hdl] at hb
            rcases List.mem_append.1 hb with hb | hb
            · simp only [List.mem_cons, List.not_mem_nil, or_false] at hb
              rcases hb with rfl | rfl | rfl | rfl <;> decide
            · exact henc b hb
          have hrb := rb_asc t (fun b hb => (hall b hb).1.1)
          have hmem : ∀ x ∈ asc t, 0 ≤ x ∧ x < 128 := fun x hx => by
            unfold asc at hx
            obtain ⟨b, hb, rfl⟩ := List.mem_map.1 hx
            have := (hall b hb).1.1
            omega
          have hsz : t.size = 4 + (encP p).length := by rw [hst, strOf_size]; simp; omega
          refine ⟨hall, ?_, by omega⟩
          have hpre : preB t aceB = true := by
            unfold preB
            rw [Bool.and_eq_true, decide_eq_true_eq, decide_eq_true_eq]
            have e4 : aceB.size = 4 := rfl
            refine ⟨by omega, ba_ext ?_⟩
            rw [ByteArray.data_extract, Array.toList_extract, List.extract_eq_take_drop, hdl, e4]
            rfl
          have hext : t.extract 4 t.size = strOf (encP p) := by
            have := strOf_ext [120, 110, 45, 45] (encP p)
            rw [← hst] at this
            exact this
          have hfx' : ∀ x ∈ p, Fx x := fun x hx => (hfx x hx).1
          have hmay : mayP p = true := by
            unfold mayP
            rw [hodd, fx_okAll hfx', fx_mapAll hfx', hc]
            simp only [Bool.true_and, Bool.and_true, decide_true, Bool.not_eq_true', decide_eq_false_iff_not]
            exact hmk
          have e1 : (asc t).any (fun c => !decide (ScP c)) = false := by
            rw [List.any_eq_false]
            intro x hx
            have := hmem x hx
            rw [decide_eq_true (by omega : ScP x)]
            decide
          have e2 : (asc t).any (fun c => decide (128 ≤ c)) = false := by
            rw [List.any_eq_false]
            intro x hx
            have := hmem x hx
            simp; omega
          unfold oneP
          rw [hrb, e1, e2, hext, puny_round hSc (by omega)]
          simp only [Bool.false_eq_true, if_false, hpre, if_true, hmay]
      · rename_i hpl
        injection h with h
        exact plain (by simpa using hpl) h.symm
theorem asc_app (a b : ByteArray) : asc (a ++ b) = asc a ++ asc b := by
  unfold asc
  rw [ByteArray.data_append, Array.toList_append, List.map_append]
theorem asc_join : ∀ ss : List ByteArray, ss ≠ [] → (∀ t ∈ ss, ∀ b ∈ t.data.toList, b ≠ 46) → splitP 46 (asc (joinP dotB ss)) = ss.map asc
  | [], h, _ => absurd rfl h
  | [t], _, h => by
    refine splitP_nodot _ (fun x hx => ?_)
    unfold joinP asc at hx
    obtain ⟨b, hb, rfl⟩ := List.mem_map.1 hx
    intro e
    exact h t (by simp) b hb (UInt8.toNat_inj.1 (by
      have : (46 : UInt8).toNat = 46 := rfl
      omega))
  | t :: u :: r, _, h => by
    have hj : joinP dotB (t :: u :: r) = t ++ dotB ++ joinP dotB (u :: r) := joinP_app [t] (u :: r) (by simp) (by simp)
    have hd : asc dotB = [46] := rfl
    rw [hj, asc_app, asc_app, hd, splitP_cut (fun x hx => ?_), asc_join (u :: r) (by simp) (fun t' ht' => h t' (by simp [ht']))]
    · rfl
    · unfold asc at hx
      obtain ⟨b, hb, rfl⟩ := List.mem_map.1 hx
      intro e
      exact h t (by simp) b hb (UInt8.toNat_inj.1 (by
        have : (46 : UInt8).toNat = 46 := rfl
        omega))
theorem partsS_of : ∀ ss : List ByteArray, (∀ t ∈ ss, oneP (asc t) = some t) → partsS (ss.map asc) = some ss
  | [], _ => rfl
  | t :: ss, h => by
    rw [List.map_cons, partsS, h t (by simp), partsS_of ss (fun u hu => h u (by simp [hu]))]
    rfl
theorem join_Lw : ∀ ss : List ByteArray, (∀ t ∈ ss, ∀ b ∈ t.data.toList, Lw b) → ∀ b ∈ (joinP dotB ss).data.toList, Lw b
  | [], _ => by simp [joinP]
  | [t], h => h t (by simp)
  | t :: u :: r, h => by
    have hj : joinP dotB (t :: u :: r) = t ++ dotB ++ joinP dotB (u :: r) := joinP_app [t] (u :: r) (by simp) (by simp)
    rw [hj, ByteArray.data_append, ByteArray.data_append, Array.toList_append, Array.toList_append]
    intro b hb
    rcases List.mem_append.1 hb with hb | hb
    · rcases List.mem_append.1 hb with hb | hb
      · exact h t (by simp) b hb
      · have : b = 46 := by simpa [dotB] using hb
        subst this
        decide
    · exact join_Lw (u :: r) (fun t' ht' => h t' (by simp [ht'])) b hb
theorem joinP_size2 (K : Nat) (ss : List ByteArray) (h : ∀ s ∈ ss, s.size ≤ K) : (joinP dotB ss).size ≤ (K + 1) * ss.length := by
  induction ss with
  | nil => exact Nat.zero_le _
  | cons t r ih =>
    cases r with
    | nil =>
      have := h t (by simp)
      show t.size ≤ _
      simp; omega
    | cons u r =>
      have hj : joinP dotB (t :: u :: r) = t ++ dotB ++ joinP dotB (u :: r) := joinP_app [t] (u :: r) (by simp) (by simp)
      have h1 := h t (by simp)
      have h2 := ih (fun s hs => h s (by simp [hs]))
      have e1 : dotB.size = 1 := rfl
      rw [hj, ByteArray.size_append, ByteArray.size_append, e1]
      rw [List.length_cons (a := t), Nat.mul_add, Nat.mul_one]
      omega
/-- THE LAW. -/
theorem all_once {l : List Int} (hl : ∀ c ∈ l, -2147483648 ≤ c ∧ c ≤ 2147483647) (hn : (foldP l).length ≤ 120) {s : ByteArray} (h : allP l = .ok s) :
    (∀ b ∈ s.data.toList, Lw b) ∧ s.size ≤ 400000 ∧ allP (asc s) = .ok s ∧ foldP (asc s) = asc s ∧ okAll (asc s) = true ∧ ∀ q ∈ splitP 46 (asc s), q.length ≤ 16000 ∧ ∀ t, oneP q = some t → t.size ≤ 500000 := by
  have hne : s ≠ ⟨#[]⟩ := by
    unfold allP at h
    split at h
    · cases h
    · split at h
      · cases h
      · split at h
        · cases h
        · injection h with h
          rename_i hh
          rw [← h]; exact hh
  obtain ⟨hok, ss, h2, rfl⟩ := allP_ok h
  have hfx := foldP_fx hl
  have hcomp : compR (foldP l) = foldP l := comp_comp (mapAll l)
  have hsp := splitP_len 46 (foldP l)
  obtain ⟨g1, g2⟩ := partsS_props _ _ h2
  have hall : ∀ t ∈ ss, (∀ b ∈ t.data.toList, Lw b ∧ b ≠ 46) ∧ oneP (asc t) = some t ∧ t.size ≤ 2525 := by
    intro t ht
    obtain ⟨p, hp, ho⟩ := g2 t ht
    have hpl := (hsp.2 p hp).1
    obtain ⟨a1, a2, a3⟩ := one_once ho (fun x hx => ⟨hfx x ((hsp.2 p hp).2 x hx), splitP_mem _ p hp x hx⟩) (splitP_comp _ hcomp p hp) (by omega)
    exact ⟨a1, a2, by omega⟩
  have hlw := join_Lw ss (fun t ht b hb => ((hall t ht).1 b hb).1)
  have hsz := joinP_size2 2525 ss (fun t ht => (hall t ht).2.2)
  have hss : ss.length ≤ 121 := by omega
  have hsz2 : 2526 * ss.length ≤ 2526 * 121 := Nat.mul_le_mul_left _ hss
  have hafx : ∀ x ∈ asc (joinP dotB ss), Fx x := fun x hx => by
    unfold asc at hx
    obtain ⟨b, hb, rfl⟩ := List.mem_map.1 hx
    exact lw_fx (hlw b hb)
  have hfold : foldP (asc (joinP dotB ss)) = asc (joinP dotB ss) := by
    unfold foldP
    rw [fx_mapAll hafx]
    unfold compR
    rw [comp_low (fun x hx => by
      unfold asc at hx
      obtain ⟨b, hb, rfl⟩ := List.mem_map.1 hx
      have := (hlw b hb).1
      omega)]
    rfl
  have hsplit := asc_join ss (partsS_ne h2) (fun t ht b hb => ((hall t ht).1 b hb).2)
  refine ⟨hlw, by omega, ?_, hfold, fx_okAll hafx, ?_⟩
  · unfold allP
    rw [fx_okAll hafx, hfold, hsplit, partsS_of ss (fun t ht => (hall t ht).2.1)]
    simp only [Bool.true_eq_false, if_false]
    rw [if_neg hne]
  · rw [hsplit]
    intro q hq
    obtain ⟨t, ht, rfl⟩ := List.mem_map.1 hq
    obtain ⟨_, b2, b3⟩ := hall t ht
    refine ⟨by rw [asc_length]; omega, fun u hu => ?_⟩
    rw [b2] at hu
    injection hu with hu
    rw [← hu]; omega
end Go.Proofs.YtkggplnigjlegaaGreatDoor

/- What label.All is asked for holds of a word of 300 bytes: in plain Lean. -/
set_option linter.unusedVariables false
namespace Go.Proofs.YtkggplnigjlegaaGreatDoor
open Go.RowKit Go.Gp

theorem oneP_size2 {l : List Int} (h : l.length ≤ 16000) {t : ByteArray} (ht : oneP l = some t) : t.size ≤ 30 * l.length + 10 := by
  have h1 := runesBytes_size_le l
  unfold oneP at ht
  split at ht
  · cases ht
  · rename_i hsc
    have hl : Sc l := fun c hc => by
      have : ¬ (l.any fun c => !decide (ScP c)) = true := by simpa using hsc
      rw [List.any_eq_true] at this
      exact Classical.byContradiction fun hn => this ⟨c, hc, by simp [hn]⟩
    obtain ⟨tl, e1, _, e3, _⟩ := encP_parts hl h
    have e2 : (aceB ++ strOf (encP l)).size ≤ 30 * l.length + 10 := by
      have q1 : aceB.size = 4 := rfl
      have q2 : (strOf (encP l)).size = (encP l).length := by simp [strOf, ByteArray.size]
      have q3 : (basics l).length ≤ l.length := by rw [basics_length]; exact List.countP_le_length
      have q4 : (if 0 < (basics l).length then basics l ++ [45] else []).length ≤ l.length + 1 := by
        split
        · simp; omega
        · simp
      rw [ByteArray.size_append, q1, q2, e1, List.length_append]
      omega
    split at ht
    · split at ht
      · cases ht
      · split at ht
        · cases ht
        · split at ht
          · injection ht with ht; rw [← ht]; omega
          · cases ht
    · split at ht
      · split at ht
        · cases ht
        · injection ht with ht; rw [← ht]; exact e2
      · injection ht with ht; rw [← ht]; omega
theorem decU_len : ∀ (f : Nat) (s : ByteArray), (decU f s).length ≤ s.size
  | 0, s => by simp [decU]
  | f + 1, s => by
    rw [decU]
    split
    · simp
    · have h1 := nextP_bd s (by omega)
      have h2 := decU_len f (s.extract (nextP s).2 s.size)
      have h3 : (s.extract (nextP s).2 s.size).size = _ := ByteArray.size_extract
      rw [List.length_cons]
      omega
theorem nxG_rng (s : ByteArray) : ∀ (k i : Nat) (c lo hi : Int), 0 ≤ c → (c + 1) * 64 ^ k ≤ 2097152 → 0 ≤ (nxG s k i c lo hi).1 ∧ (nxG s k i c lo hi).1 ≤ 2097152
  | 0, i, c, lo, hi, h0, h1 => by
    rw [Int.pow_zero, Int.mul_one] at h1
    rw [nxG]
    exact ⟨h0, by dsimp only; omega⟩
  | k + 1, i, c, lo, hi, h0, h1 => by
    rw [nxG]
    split
    · have hx0 := Int.emod_nonneg ((s.data.toList.getD i 0).toNat : Int) (by decide : (64 : Int) ≠ 0)
      have hx1 := Int.emod_lt_of_pos ((s.data.toList.getD i 0).toNat : Int) (by decide : (0 : Int) < 64)
      generalize ((s.data.toList.getD i 0).toNat : Int) % 64 = x at hx0 hx1 ⊢
      refine nxG_rng s k (i + 1) _ 128 191 (by omega) ?_
      have h2 : (c * 64 + x + 1) * 64 ^ k ≤ ((c + 1) * 64) * 64 ^ k := Int.mul_le_mul_of_nonneg_right (by omega) (Int.le_of_lt (Int.pow_pos (by decide)))
      have h3 : ((c + 1) * 64) * 64 ^ k = (c + 1) * 64 ^ (k + 1) := by rw [Int.pow_succ, Int.mul_assoc, Int.mul_comm (64 : Int) (64 ^ k)]
      omega
    · exact ⟨by dsimp only; omega, by dsimp only; omega⟩
theorem nextP_rng (s : ByteArray) : 0 ≤ (nextP s).1 ∧ (nextP s).1 ≤ 2097152 := by
  unfold nextP
  split
  · dsimp only; omega
  · have h := (fstP_bd (s.data.toList.getD 0 0).toNat).2
    exact nxG_rng s _ _ _ _ _ h.1 h.2
theorem decU_rng : ∀ (f : Nat) (s : ByteArray), ∀ x ∈ decU f s, 0 ≤ x ∧ x ≤ 2097152
  | 0, s, x, hx => by simp [decU] at hx
  | f + 1, s, x, hx => by
    rw [decU] at hx
    split at hx
    · simp at hx
    · rcases List.mem_cons.1 hx with h | h
      · rw [h]; exact nextP_rng s
      · exact decU_rng f _ x h
theorem splitP_sum (v : Int) (l : List Int) : ((splitP v l).map List.length).sum ≤ l.length := by
  induction l with
  | nil => simp [splitP]
  | cons x r ih =>
    rw [splitP]
    split
    · simp only [List.map_cons, List.length_nil, List.sum_cons, List.length_cons]
      omega
    · cases hs : splitP v r with
      | nil => simp
      | cons p ps =>
        rw [hs] at ih
        simp only [List.map_cons, List.sum_cons, List.length_cons] at ih ⊢
        omega
theorem parts_sum : ∀ (ps : List (List Int)) (ss : List ByteArray), (∀ p ∈ ps, p.length ≤ 16000) → partsS ps = some ss → sumN ss ≤ 30 * (ps.map List.length).sum + 10 * ps.length
  | [], ss, _, h => by
    have : ss = [] := by simpa [partsS] using h.symm
    subst this
    simp [sumN]
  | p :: ps, ss, hp, h => by
    rw [partsS] at h
    cases ho : oneP p with
    | none => rw [ho] at h; cases h
    | some u =>
      rw [ho] at h
      cases hr : partsS ps with
      | none => rw [hr] at h; cases h
      | some rr =>
        rw [hr] at h
        have e : ss = u :: rr := by simpa using h.symm
        subst e
        have h1 := parts_sum ps rr (fun q hq => hp q (by simp [hq])) hr
        have h2 := oneP_size2 (hp p (by simp)) ho
        have h3 : sumN (u :: rr) = u.size + sumN rr := by simp [sumN]
        rw [h3, List.map_cons, List.sum_cons, List.length_cons]
        omega
theorem joinP_sum (ss : List ByteArray) : (joinP dotB ss).size ≤ sumN ss + ss.length := by
  cases ss with
  | nil => exact Nat.zero_le _
  | cons s ss =>
    have h2 := congrArg List.length (join_data (s :: ss) (by simp))
    have h3 := tailJ_len ss
    simp only [List.headD_cons, List.drop_succ_cons, List.drop_zero, List.length_append] at h2
    have e1 : (joinP dotB (s :: ss)).data.toList.length = (joinP dotB (s :: ss)).size := by simp
    have e2 : s.data.toList.length = s.size := by simp
    have e3 : sumN (s :: ss) = s.size + sumN ss := by simp [sumN]
    rw [e1, e2, h3] at h2
    rw [e3, List.length_cons]
    omega
theorem allOk_len {l : List Int} (hn : l.length ≤ 5000) (hr : ∀ x ∈ l, 0 ≤ x ∧ x ≤ 2097152) : AllOk l := by
  have h1 := foldP_len l
  have h2 := splitP_len 46 (foldP l)
  have hq : ∀ q ∈ splitP 46 (foldP l), q.length ≤ 16000 := fun q hq => by have := (h2.2 q hq).1; omega
  refine ⟨by omega, R32.of_mem (fun x hx => by have := hr x hx; omega), fun _ => ⟨by omega, fun q hq' => ⟨hq q hq', fun t ht => by
    have h3 := oneP_size2 (hq q hq') ht
    have := (h2.2 q hq').1
    omega⟩⟩, fun s hs => ?_⟩
  obtain ⟨_, ss, g1, rfl⟩ := allP_ok hs
  have g2 := parts_sum _ _ hq g1
  have g3 := joinP_sum ss
  have g4 := splitP_sum 46 (foldP l)
  have g5 := (partsS_props _ _ g1).1
  omega
theorem allOk_word {w : ByteArray} (h : w.size ≤ 5000) : AllOk (decUP (nameP w)) := by
  have h1 : (nameP w).size ≤ w.size := by
    unfold nameP
    split
    · have : (w.extract 1 w.size).size = _ := ByteArray.size_extract
      omega
    · exact Nat.le_refl _
  have h2 := decU_len ((nameP w).size + 1) (nameP w)
  exact allOk_len (by unfold decUP; omega) (decU_rng _ _)
end Go.Proofs.YtkggplnigjlegaaGreatDoor

/- Lists of rules put together: the rules of the walk. -/
set_option linter.unusedVariables false
set_option linter.unusedSimpArgs false
namespace Go.Gp
open Go.RowKit
section
variable {C : Cx} {Q : Po} {l : List (Nat × Value)} {m : List Res} {ops : Array Oper} {rest : List Oper} {ty : TypeId} {pos : String} {af : Array Edge} {g : Option (Nat × Bool)} {dd : Option Nat}
theorem Ev.appendG {s x : Operand} {t e : TypeId} {inf : TypeInfo} {z : Value} {A B : Option Addr} {c c' n k i by_ sz : Nat} {xs ys : List Value}
    (ht : C.P.underlying t = some (.slice e)) (hi : C.P.info? e = some inf) (hz : inf.zero = some z) (hsz : inf.size = sz) (hby : inf.bytes = by_) (hzs : z.cells.size = sz) (hs0 : 0 < sz)
    (hs : opv l s = some (.slice A n c)) (hx : opv l x = some (.slice B k c')) (hm : m[i]? = some (.own A c n xs e sz)) (hr : Rd C.w0 (m ++ C.m0) B ys) (hk : ys.length = k * sz) (h1 : ys.all (·.oneCell') = true)
    (h63 : n + k ≤ maxLen) (hbb : (n + k) * by_ ≤ 140737488355328) :
    Ev (α := Option Addr × Nat) C l m ⟨dd, .call { callee := .builtin .append, args := #[s, x], argTypes := #[t, t] }, ty, pos, af, g⟩ (fun p => p = (none, 0) ↔ (n = 0 ∧ k = 0 ∧ A = none)) (fun p => .slice p.1 (n + k) p.2) (fun p => m.set i (.own p.1 p.2 (n + k) (xs ++ ys) e sz)) := fun ev hev w hw => by
  have hlt : i < m.length := (List.getElem?_eq_some_iff.1 hm).1
  have hm' : (m ++ C.m0)[i]? = some (.own A c n xs e sz) := by rw [List.getElem?_append_left hlt]; exact hm
  have hown : w.ownsRow C.w0.heap.size e sz (.slice A n c) n xs := hw.all i _ hm'
  have hA : A = none → n = 0 ∧ c = 0 := by
    rintro rfl
    rcases hown.2 with ⟨h1, h2⟩ | ⟨g, cap, cur, h1, _⟩
    · injection h1 with _ _ h3
      exact ⟨h2, h3⟩
    · simp at h1
  cases B with
  | none =>
    have hy : ys = [] := by
      cases hys : ys with
      | nil => rfl
      | cons y r =>
        unfold Rd at hr
        obtain ⟨a, ha, _⟩ := hr w hw 0 y (by simp [hys])
        simp at ha
    subst hy
    have hk0 : k = 0 := by
      rcases Nat.mul_eq_zero.1 hk.symm with h | h
      · exact h
      · omega
    subst hk0
    refine ⟨(A, c), w, ?_, ?_, ?_⟩
    · constructor
      · intro h
        obtain ⟨h1, h2⟩ := Prod.mk.inj h
        have h3 := hA h1
        exact ⟨h3.1, rfl, h1⟩
      · rintro ⟨h1, _, h2⟩
        rw [h2, (hA h2).2]
    · have hrun : (Builtin.append_ #[t, t] ty #[.slice A n c, .slice none 0 c']).run C.P w = .ok (.slice A n c) w := by
        rcases hown.2 with ⟨hv, rfl⟩ | ⟨g, cap, cur, hv, _, _, hnc, _⟩
        · injection hv with h1 h2 h3
          subst h1 h3
          simp [Builtin.append_, run_underlying ht, sizeOf, typeInfo, hi, Builtin.lenOf, Builtin.firstCells]
        · injection hv with h1 h2 h3
          subst h1 h3
          simp [Builtin.append_, run_underlying ht, sizeOf, typeInfo, hi, Builtin.lenOf, Builtin.firstCells, hnc, storeCells]
      simp [execOp, resolve, invoke, builtin, hev s _ hs, hev x _ hx, hrun]
    · rw [← List.set_append_left _ _ hlt]
      refine hw.upd hm' ⟨rfl, rfl, rfl, Nat.le_refl _, fun _ _ _ => rfl⟩ ?_ (fun g hg => .inl hg)
      simpa [Res.at] using hown
  | some a =>
    have hnews : ∀ j u, ys[j]? = some u → w.cell? (a.add j) = some u := fun j u hu => by
      unfold Rd at hr
      obtain ⟨a', ha, hc⟩ := hr w hw j u hu
      cases ha
      exact hc
    obtain ⟨v', w', hrun, h2, h3, h4, h5⟩ := run_append_own_at (P := C.P) w C.w0.heap.size t ty e inf z sz by_ ht hi hz hsz hby hzs hs0 (.slice A n c) n xs hown a k c' ys hk hnews (by simpa using h1) h63 hbb hw.bnd
    have hform : ∃ p : Option Addr × Nat, v' = .slice p.1 (n + k) p.2 := by
      rcases h2.2 with ⟨h, h'⟩ | ⟨g, cap, cur, h, _⟩
      · exact ⟨(none, 0), by rw [h, h']⟩
      · exact ⟨(some ⟨g, 0, none⟩, cap), h⟩
    obtain ⟨p, rfl⟩ := hform
    have hblk : ∀ (q : Option Addr) (u c : Nat), Value.ownBlock (.slice q u c) = q.map (·.block) := by intro q u c; cases q <;> rfl
    refine ⟨p, w', ?_, ?_, ?_⟩
    · constructor
      · intro h
        subst h
        have hnk : n + k = 0 := by
          rcases h2.2 with ⟨_, h'⟩ | ⟨g, cap, cur, h, _⟩
          · exact h'
          · simp at h
        have hv : Value.slice none (n + k) 0 = .slice none 0 0 := by rw [hnk]
        have := (h4.1 hv).1
        injection this with q1 q2 q3
        exact ⟨by omega, by omega, q1⟩
      · rintro ⟨rfl, rfl, rfl⟩
        have hc := (hA rfl).2
        subst hc
        have := h4.2 ⟨rfl, rfl⟩
        injection this with q1 q2 q3
        exact Prod.ext q1 q3
    · simp [execOp, resolve, invoke, builtin, hev s _ hs, hev x _ hx, hrun]
    · rw [← List.set_append_left _ _ hlt]
      refine hw.upd hm' (by rw [hblk] at h3; exact h3) h2 ?_
      intro g hg
      rw [hblk, hblk] at h5
      have hg' : p.1.map (·.block) = some g := hg
      rcases h5 with h5 | h5
      · left; show A.map (·.block) = some g; rw [← h5]; exact hg'
      · right
        rw [h5] at hg'
        have := Option.some.inj hg'
        omega
theorem Mem.shutN {w0 w : World} {m0 : List Res} (i : Nat) {gg c n sz : Nat} {cur : List Value} {e : TypeId} (hi : m[i]? = some (.blk gg cur e)) (hc : cur.length = c * sz) (hn : n ≤ c) (hm : c ≤ maxLen) (hw : Mem w0 (m ++ m0) w) : Mem w0 (m.set i (.own (some ⟨gg, 0, none⟩) c n (cur.take (n * sz)) e sz) ++ m0) w := by
  have hlt : i < m.length := (List.getElem?_eq_some_iff.1 hi).1
  have hi' : (m ++ m0)[i]? = some (.blk gg cur e) := by rw [List.getElem?_append_left hlt]; exact hi
  have h := hw.all i _ hi'
  have hle : n * sz ≤ c * sz := Nat.mul_le_mul_right _ hn
  rw [← List.set_append_left _ _ hlt]
  refine hw.upd hi' ⟨rfl, rfl, rfl, Nat.le_refl _, fun _ _ _ => rfl⟩ ?_ (fun k hk => .inl hk)
  refine ⟨by rw [List.length_take]; omega, .inr ⟨gg, c, cur.toArray, rfl, h.1, h.2, hn, hm, by simpa using hc, by simp⟩⟩
theorem WX.formN (i : Nat) {A : Option Addr} {c n sz : Nat} {xs : List Value} {e : TypeId} (hi : m[i]? = some (.own A c n xs e sz)) (h : (0 < n → ∃ g, A = some ⟨g, 0, none⟩) → WX false C Q ops rest l m) : WX false C Q ops rest l m := by
  have hlt : i < m.length := (List.getElem?_eq_some_iff.1 hi).1
  unfold WX WL at h ⊢
  intro a w hs
  refine h (fun hn => ?_) a w hs
  have hi' : (m ++ C.m0)[i]? = some (.own A c n xs e sz) := by rw [List.getElem?_append_left hlt]; exact hi
  have hown : w.ownsRow C.w0.heap.size e sz (.slice A n c) n xs := hs.2.all i _ hi'
  rcases hown.2 with ⟨_, h0⟩ | ⟨gg, cap, cur, hv, _⟩
  · omega
  · injection hv with h1 h2 h3
    exact ⟨gg, h1⟩
theorem Rd.mem {w0 : World} {m : List Res} {gg : Nat} {cs : List Value} {e : TypeId} (h : .blk gg cs e ∈ m) : Rd w0 m (some ⟨gg, 0, none⟩) cs := by
  obtain ⟨i, hi⟩ := List.mem_iff_getElem?.1 h
  exact Rd.blk i hi
theorem Rd.memN {w0 : World} {m : List Res} {A : Option Addr} {c n sz : Nat} {xs : List Value} {e : TypeId} (h : .own A c n xs e sz ∈ m) : Rd w0 m A xs := by
  obtain ⟨i, hi⟩ := List.mem_iff_getElem?.1 h
  exact Rd.ownN i hi
theorem WX.formM {A : Option Addr} {c n sz : Nat} {xs : List Value} {e : TypeId} (hi : .own A c n xs e sz ∈ m) (h : (0 < n → ∃ g, A = some ⟨g, 0, none⟩) → WX false C Q ops rest l m) : WX false C Q ops rest l m := by
  obtain ⟨i, hi⟩ := List.mem_iff_getElem?.1 hi
  exact WX.formN i hi h
theorem Mem.own2 {w0 : World} {m m0 : List Res} {b : Nat} {e : TypeId} : ∀ w, Mem w0 ((.own (some ⟨b, 0, none⟩) 0 0 [] e 1 :: m) ++ m0) w → Mem w0 ((.own (some ⟨b, 0, none⟩) 0 0 [] e 2 :: m) ++ m0) w := fun w hw => by
  have hown : w.ownsRow w0.heap.size e 1 (.slice (some ⟨b, 0, none⟩) 0 0) 0 [] := hw.all 0 _ rfl
  refine hw.upd (i := 0) rfl ⟨rfl, rfl, rfl, Nat.le_refl _, fun _ _ _ => rfl⟩ (r' := .own (some ⟨b, 0, none⟩) 0 0 [] e 2) ?_ (fun k hk => .inl hk)
  rcases hown.2 with ⟨h1, _⟩ | ⟨gg, cap, cur, hv, hb, hg, hnc, hcm, hcs, htake⟩
  · cases h1
  · have hc : cap = 0 := by injection hv with _ _ h3; exact h3.symm
    subst hc
    exact ⟨rfl, .inr ⟨gg, 0, cur, hv, hb, hg, hnc, hcm, by simpa using hcs, by simp⟩⟩
theorem Mem.mid {w0 : World} {r1 r2 r3 : Res} {a b m0 : List Res} : ∀ w, Mem w0 (((r1 :: r2 :: a) ++ (r3 :: b)) ++ m0) w → Mem w0 ((r1 :: r3 :: (a ++ b)) ++ m0) w := fun w hw => by
  have h1 : Mem w0 ((r1 :: r2 :: r3 :: (a ++ b)) ++ m0) w := hw.perm (((List.perm_middle.cons r2).cons r1).append_right m0)
  exact Mem.pickL (m := [r1, r2, r3]) (J := a ++ b) (m' := [r1, r3]) [0, 2] (by decide) rfl w h1
theorem Mem.commL {w0 : World} {a b m0 : List Res} : ∀ w, Mem w0 ((a ++ b) ++ m0) w → Mem w0 ((b ++ a) ++ m0) w := fun _ h => h.perm (List.perm_append_comm.append_right m0)
end
end Go.Gp
namespace Go.Proofs.YtkggplnigjlegaaGreatDoor
open Go.RowKit Go.Gp

theorem splitL_app (c : UInt8) : ∀ x y : List UInt8, splitL c (x ++ c :: y) = splitL c x ++ splitL c y
  | [], y => by
    have : splitL c (c :: y) = [] :: splitL c y := by rw [splitL, if_pos rfl]
    exact this
  | z :: x, y => by
    rw [List.cons_append, splitL, splitL]
    split
    · rw [splitL_app c x y]; rfl
    · rw [splitL_app c x y]
      cases hs : splitL c x with
      | nil => exact absurd hs (splitL_ne c x)
      | cons p ps => rfl
theorem splitS_app (c : UInt8) (a b : ByteArray) : splitS c (a ++ ⟨#[c]⟩ ++ b) = splitS c a ++ splitS c b := by
  unfold splitS
  have e : (a ++ ⟨#[c]⟩ ++ b).data.toList = a.data.toList ++ c :: b.data.toList := by simp
  rw [e, splitL_app, List.map_append]
theorem wordsP_app (a b : ByteArray) : wordsP (a ++ ⟨#[10]⟩ ++ b) = wordsP a ++ wordsP b := by
  unfold wordsP wordsL
  rw [splitS_app, List.map_append, List.filter_append]
theorem parseP_app (a b : ByteArray) : parseP (a ++ ⟨#[10]⟩ ++ b) = parseP a ++ parseP b := by
  unfold parseP
  rw [wordsP_app, List.filterMap_append]
theorem wordS_size (l : ByteArray) : (wordS l).size ≤ l.size := by
  rw [wordS_ext]
  split
  · exact Nat.le_refl _
  · rw [ByteArray.size_extract]; omega
theorem words_ok {s : ByteArray} (h : s.size ≤ 5000) : ∀ w ∈ wordsP s, w.size ≤ 800000 ∧ AllOk (decUP (nameP w)) := by
  intro w hw
  unfold wordsP wordsL at hw
  obtain ⟨l, hl, rfl⟩ := List.mem_map.1 (List.mem_filter.1 hw).1
  have h1 := (splitS_mem 10 s l hl).1
  have h2 := wordS_size l
  exact ⟨by omega, allOk_word (by omega)⟩
theorem rulesV_len (ds : List (Nat × List ByteArray × Bool)) : (rulesV ds).length = ds.length * 2 := by
  induction ds with
  | nil => rfl
  | cons d ds ih =>
    have : rulesV (d :: ds) = ruleV d ++ rulesV ds := by simp [rulesV]
    rw [this, List.length_append, ih]
    simp
    omega
theorem rulesV_app (a b : List (Nat × List ByteArray × Bool)) : rulesV (a ++ b) = rulesV a ++ rulesV b := by simp [rulesV]
theorem rulesV_one (ds : List (Nat × List ByteArray × Bool)) : ∀ v ∈ rulesV ds, v.oneCell' = true := by
  induction ds with
  | nil => intro v hv; simp [rulesV] at hv
  | cons d ds ih =>
    intro v hv
    have : rulesV (d :: ds) = ruleV d ++ rulesV ds := by simp [rulesV]
    rw [this] at hv
    rcases List.mem_append.1 hv with h | h
    · simp only [ruleV, List.mem_cons, List.not_mem_nil, or_false] at h
      rcases h with rfl | rfl <;> rfl
    · exact ih v h
theorem parse_lens {s : ByteArray} (h : s.size ≤ 5000) : (parseP s).length ≤ 5001 ∧ ∀ r ∈ parseP s, r.1.length ≤ 1000000 := by
  refine ⟨?_, fun r hr => ?_⟩
  · have h1 : (parseP s).length ≤ (wordsP s).length := by unfold parseP; exact List.length_filterMap_le _ _
    have h2 : (wordsP s).length ≤ (splitS 10 s).length := by
      unfold wordsP wordsL
      exact Nat.le_trans (List.length_filter_le _ _) (by simp)
    have := splitS_len 10 s
    omega
  · unfold parseP at hr
    obtain ⟨w, hw, hr⟩ := List.mem_filterMap.1 hr
    have ho := (words_ok h w hw).2
    unfold ruleP at hr
    cases ha : allP (decUP (nameP w)) with
    | error n => rw [ha] at hr; cases hr
    | ok d =>
      rw [ha] at hr
      have hd := ho.2.2.2 d ha
      dsimp only at hr
      cases hl : labelsP d with
      | none => rw [hl] at hr; cases hr
      | some ls =>
        rw [hl] at hr
        obtain rfl : (ls, preB w bangB) = r := by simpa using hr
        unfold labelsP at hl
        split at hl
        · cases hl
        · injection hl with hl
          rw [← hl]
          have h1 := trimP_le (splitS 46 d)
          have h2 := splitS_len 46 d
          dsimp only
          rw [List.length_reverse]
          omega
end Go.Proofs.YtkggplnigjlegaaGreatDoor
