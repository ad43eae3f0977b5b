/- Ranging over a function: the loop's record as a resource, a call of yield as a contract, the statement, the way back with a mark among the deferred calls. -/
import Derived.Test.YthnabbidlmihbaaSep
import Derived.RangeFuncLeaves
import Derived.RangeFuncSeq
set_option linter.unusedSimpArgs false
set_option linter.unusedVariables false
namespace Go.Gp
open Go.RowKit

theorem Mem.putObj {w0 w : World} {m m0 : List Res} {i b : Nat} {o o' : Obj} (hw : Mem w0 (m ++ m0) w) (hi : m[i]? = some (.obj b o)) : Mem w0 (m.set i (.obj b o') ++ m0) (w.putObj b o') := by
  have hlt : i < m.length := (List.getElem?_eq_some_iff.1 hi).1
  have hi' : (m ++ m0)[i]? = some (.obj b o) := by rw [List.getElem?_append_left hlt]; exact hi
  have hb := at_lt (hw.all i _ hi') b rfl
  rw [← List.set_append_left _ _ hlt]
  refine hw.upd hi' ⟨rfl, rfl, rfl, by simp, fun k hk hne => ?_⟩ ⟨hb.1, World.putObj_heap_same hb.2⟩ (fun k hk => .inl hk)
  exact World.putObj_heap_other (fun e => hne (by rw [e]; rfl))
theorem Mem.heapObj {w0 w : World} {m m0 : List Res} {i b : Nat} {o : Obj} (hw : Mem w0 (m ++ m0) w) (hi : m[i]? = some (.obj b o)) : w.heap[b]? = some o := ((Mem.appL hw).all i _ hi).2

/-- What a call of yield comes to. -/
def YCt {α : Type} (P : Program) (lp : Nat) (args : List Value) (w0 : World) (m m0 : List Res) (φ : α → Prop) (val : α → Value) (M : α → List Res) : Prop :=
  ∀ w, Mem w0 (m ++ m0) w → YieldAt Fence.wide 0 P lp args.toArray w (sp w0 m0 φ val M)

section
variable {C : Cx} {Q : Po} {l : List (Nat × Value)} {m : List Res} {ops : Array Oper} {rest : List Oper}
theorem WX.yield {α : Type} {φ : α → Prop} {val : α → Value} {M : α → List Res} {d : Nat} {ty : TypeId} {pos : String} {af : Array Edge} {g : Option (Nat × Bool)} {fo : Operand} {xs : List Operand} {ts : Array TypeId} {lp : Nat} {vs : List Value} {m1 m2 : List Res}
    (hfo : opv l fo = some (.func (.yield lp) #[] #[])) (hxs : opvs l xs = some vs) (hm : m = m1 ++ m2) (hsp : YCt C.P lp vs C.w0 m1 (m2 ++ C.m0) φ val M) (hdn : Nat.blt d C.n = true) (hg : wants ops l g = some true)
    (k : ∀ x, φ x → WX false C Q ops rest ((d, val x) :: l) (M x ++ m2)) : WX false C Q ops (⟨some d, .call { callee := .value fo, args := xs.toArray, argTypes := ts }, ty, pos, af, g⟩ :: rest) l m := by
  show WX false C Q ops _ l m
  unfold WX WL at k ⊢
  intro a w hs
  refine wpListIn_wanted (wanted_of hs.1 hg) rfl ?_
  obtain ⟨fn, tmps, assign, body, hy, hF, hR⟩ := hsp w (by rw [← List.append_assoc, ← hm]; exact hs.2)
  have hrun : (execOp a.eval ⟨some d, .call { callee := .value fo, args := xs.toArray, argTypes := ts }, ty, pos, af, g⟩).run C.P w = .ok (.round lp fn tmps assign body) w := by
    have h1 := opvs_map (ev_of hs.1) xs vs hxs
    simp [execOp, resolve, hs.1.eval hfo, Deferred.ofValue, Go.invoke, h1, hy]
  rw [hrun, Oper.uponIn_round]
  refine ⟨fun h => by simp [FW] at h, trivial, fun c cs hroom => ?_⟩
  obtain ⟨e, w', hsp', hcome⟩ := hR c cs (room_wide _)
  refine ⟨e, w', ?_, hcome⟩
  obtain ⟨x, hx, rfl, hmem⟩ := hsp'
  refine k x hx _ _ ⟨hs.1.put d _ hdn, ?_⟩
  rw [List.append_assoc]
  exact hmem

/-- What stands behind the assignment to the loop's variable. -/
def RB (P : Program) (lp : Nat) (body : Code) (R : Ending → World → Prop) : Act → World → Prop := fun a w => ∃ w₂, (Instr.beginRound lp).run P w = .ok () w₂ ∧ body.wpIn (FW (some lp)) 0 P (roundPost P lp R) a w₂

theorem YCt.of {α : Type} {P : Program} {w0 : World} {m0 : List Res} {φ : α → Prop} {val : α → Value} {M : α → List Res} {lp p n : Nat} {v : Value} {r : Loop} (i : Nat) (hr : r.params = #[p]) (hp : Nat.blt p n = true) (hsl : Sl n [] l ⟨r.tmps, []⟩)
    (hi : m[i]? = some (.obj lp (.loop r))) (h : WC ⟨some lp, P, n, [], w0, m0⟩ (Exit.then (RB P lp r.body (sp w0 m0 φ val M)) (fun _ _ _ => False)) r.assign ((p, v) :: l) m) : YCt P lp [v] w0 m m0 φ val M := by
  intro w hw
  unfold WC at h
  have hl := Mem.heapObj hw hi
  refine ⟨r.fn, r.tmps.setIfInBounds p v, r.assign, r.body, ?_, ?_⟩
  · rw [run_yield hl (by rw [hr]; rfl)]
    simp [hr]
  · refine roundIn_of_wpIn trivial ?_
    exact h { tmps := r.tmps.setIfInBounds p v, defers := [] } w ⟨hsl.put p v hp, hw⟩

theorem WE.begin {P : Program} {n : Nat} {w0 : World} {m0 : List Res} {lp : Nat} {body : Code} {R : Ending → World → Prop} {r : Loop} (i : Nat) (hi : m[i]? = some (.obj lp (.loop r))) (hready : r.state = .ready)
    (h : WC ⟨some lp, P, n, [], w0, m0⟩ (roundPost P lp R) body l (m.set i (.obj lp (.loop { r with state := .busy })))) : WE ⟨some lp, P, n, [], w0, m0⟩ (Exit.then (RB P lp body R) Q) .normal l m := by
  unfold WE
  unfold WC at h
  intro a w hs
  exact ⟨_, run_beginRound (Mem.heapObj hs.2 hi) hready, h _ _ ⟨hs.1, Mem.putObj hs.2 hi⟩⟩

theorem WE.round_n {α : Type} {φ : α → Prop} {val : α → Value} {M : α → List Res} {lp : Nat} {r : Loop} (i : Nat) (x : α) (hi : m[i]? = some (.obj lp (.loop r))) (hv : val x = .bool true) (hφ : φ x)
    (hM : ∀ w, Mem C.w0 (m.set i (.obj lp (.loop { r with state := .ready, pending := none })) ++ C.m0) w → Mem C.w0 (M x ++ C.m0) w) : WE C (roundPost C.P lp (sp C.w0 C.m0 φ val M)) .normal l m := by
  unfold WE
  intro a w hs
  refine ⟨_, _, run_endRound none (Mem.heapObj hs.2 hi), x, hφ, by rw [hv]; rfl, hM _ (Mem.putObj hs.2 hi)⟩
theorem WE.round_r {α : Type} {φ : α → Prop} {val : α → Value} {M : α → List Res} {lp : Nat} {r : Loop} (i : Nat) (x : α) (hi : m[i]? = some (.obj lp (.loop r))) (hv : val x = .bool false) (hφ : φ x)
    (hM : ∀ w, Mem C.w0 (m.set i (.obj lp (.loop { r with state := .done, pending := some .ret })) ++ C.m0) w → Mem C.w0 (M x ++ C.m0) w) : WE C (roundPost C.P lp (sp C.w0 C.m0 φ val M)) .ret l m := by
  unfold WE
  intro a w hs
  refine ⟨_, _, run_endRound (some .ret) (Mem.heapObj hs.2 hi), x, hφ, by rw [hv]; rfl, hM _ (Mem.putObj hs.2 hi)⟩
theorem WE.round_x {α : Type} {φ : α → Prop} {val : α → Value} {M : α → List Res} {lp id : Nat} {r : Loop} (i : Nat) (x : α) (hi : m[i]? = some (.obj lp (.loop r))) (hv : val x = .bool false) (hφ : φ x)
    (hM : ∀ w, Mem C.w0 (m.set i (.obj lp (.loop { r with state := .done, pending := some (.exit id) })) ++ C.m0) w → Mem C.w0 (M x ++ C.m0) w) : WE C (roundPost C.P lp (sp C.w0 C.m0 φ val M)) (.exit id) l m := by
  unfold WE
  intro a w hs
  refine ⟨_, _, run_endRound (some (.exit id)) (Mem.heapObj hs.2 hi), x, hφ, by rw [hv]; rfl, hM _ (Mem.putObj hs.2 hi)⟩
end

/-- The mark of the block for the rounds' deferred calls. -/
abbrev dmark (dk : Nat) : Deferred := { target := .collected dk, args := #[] }

section
variable {P : Program} {n : Nat} {D : List Deferred} {w0 : World} {m0 : List Res} {Q : Po} {l : List (Nat × Value)} {m : List Res}
/-- A statement that may leave other deferred calls. -/
theorem c_sqD {r : Option Nat} {x y : Code} (h : ∀ K : Act → World → Prop, (∀ d l m, WC ⟨r, P, n, d, w0, m0⟩ Q y l m → CK ⟨r, P, n, d, w0, m0⟩ K l m) → WC ⟨r, P, n, D, w0, m0⟩ (Exit.then K Q) x l m) : WC ⟨r, P, n, D, w0, m0⟩ Q (.seq x y) l m := by
  unfold WC CK at h
  unfold WC
  exact fun a w hs => wpIn_seq (h (fun a w => y.wpIn (FW r) 0 P Q a w) (fun d l m h => h) a w hs)

/-- THE STATEMENT. -/
theorem WC.range {g : Operand} {ps : Array Tmp} {assign body : Code} {f : FuncId} {cs : List Value} (hg : opv l g = some (.func (.func f) #[] cs.toArray))
    (h : ∀ (dk lp : Nat) (r : Loop), r.state = .ready → r.pending = none → r.params = ps → r.assign = assign → r.body = body → Sl n [] l ⟨r.tmps, []⟩ →
      ∃ (α : Type) (φ : α → Prop) (val : α → Value) (M : α → List Res), Ct P f (.func (.yield lp) #[] #[] :: cs) w0 (.obj lp (.loop r) :: .obj dk (.deferred (some [])) :: m) m0 φ val M ∧
        ∀ x, φ x → ∃ (r' : Loop) (i : Nat), (M x)[i]? = some (.obj lp (.loop r')) ∧ r'.state ≠ .busy ∧ ∀ r'' : Loop,
          ((r'.pending = none ∧ WE ⟨none, P, n, dmark dk :: D, w0, m0⟩ Q .normal l ((M x).set i (.obj lp (.loop r'')))) ∨
           (r'.pending = some .ret ∧ WE ⟨none, P, n, dmark dk :: D, w0, m0⟩ Q .ret l ((M x).set i (.obj lp (.loop r'')))) ∨
           ∃ id, r'.pending = some (.exit id) ∧ WE ⟨none, P, n, dmark dk :: D, w0, m0⟩ Q (.exit id) l ((M x).set i (.obj lp (.loop r'')))))
    : WC ⟨none, P, n, D, w0, m0⟩ Q (.rangeFunc g ps assign body) l m := by
  unfold WC
  intro a w hs
  refine wpIn_rangeFunc (F := FW none) fun fn _ => ?_
  have hrec : ∃ r : Loop, r = { state := .ready, pending := none, fn, tmps := a.tmps, params := ps, assign, body, defers := w.heap.size } := ⟨_, rfl⟩
  obtain ⟨r, hr⟩ := hrec
  obtain ⟨α, φ, val, M, hct, hx⟩ := h w.heap.size (w.heap.size + 1) r (by rw [hr]) (by rw [hr]) (by rw [hr]) (by rw [hr]) (by rw [hr]) (by rw [hr]; exact ⟨rfl, hs.1.size, hs.1.at_⟩)
  unfold Ct at hct
  obtain ⟨hE, hct⟩ := hct
  have hev := hs.1.eval hg
  have hbnd : w0.heap.size ≤ w.heap.size := hs.2.bnd
  have hm1 : Mem w0 (.obj w.heap.size (.deferred (some [])) :: (m ++ m0)) (w.alloc (.deferred (some []))) :=
    hs.2.add (World.grownBy_alloc w _ none) ⟨hbnd, heap_alloc_new w _⟩ (fun k hk => by simp [Res.block] at hk; omega)
  have hm2 : Mem w0 (.obj (w.heap.size + 1) (.loop r) :: .obj w.heap.size (.deferred (some [])) :: (m ++ m0)) ((w.alloc (.deferred (some []))).alloc (.loop r)) := by
    have hsz : (w.alloc (.deferred (some []))).heap.size = w.heap.size + 1 := by simp
    refine hm1.add (World.grownBy_alloc _ _ none) ⟨by omega, ?_⟩ (fun k hk => by simp [Res.block] at hk; omega)
    rw [← hsz]
    exact heap_alloc_new _ _
  have hent : (Instr.enterLoop fn a.tmps ps assign body (FW none).round).run P w = .ok (w.heap.size + 1, [dmark w.heap.size]) ((w.alloc (.deferred (some []))).alloc (.loop r)) := by
    rw [hr]
    exact run_enterLoop_outer fn a.tmps ps assign body
  refine ⟨w.heap.size + 1, [dmark w.heap.size], _, { target := .fn (.func f) cs.toArray, args := #[.func (.yield (w.heap.size + 1)) #[] #[]] }, (w.alloc (.deferred (some []))).alloc (.loop r), f, (.func (.yield (w.heap.size + 1)) #[] #[] :: cs).toArray, (w.alloc (.deferred (some []))).alloc (.loop r), hent, ?_, fun _ _ => trivial, ?_, fun h => by simp [FW] at h, ?_⟩
  · simp only [rangeCall, resolve, hev, Deferred.ofValue]
    simp [Act.eval]
  · obtain ⟨fnn, hf, hnm, hb⟩ := hE
    have hn' : fnn.name ≠ "runtime.NumGoroutine" := by simpa using hnm
    have hb' : fnn.body ≠ none := by intro e; simp [e] at hb
    simp [Go.invoke, callFunc, hf, hn', hb']
  · have hc : CallsIn Fence.wide 0 P f (.func (.yield (w.heap.size + 1)) #[] #[] :: cs).toArray ((w.alloc (.deferred (some []))).alloc (.loop r)) (sp w0 m0 φ val M) := callsIn_wide.2 (hct _ hm2)
    refine CallsIn.mono (F := FW none) hc ?_
    rintro e w' ⟨x, hφ, rfl, hmem⟩
    obtain ⟨r', i, hi, hnb, hend⟩ := hx x hφ
    obtain ⟨W, R, hrun, hmem'⟩ : ∃ (W : World) (R : Loop), (Instr.endLoop (w.heap.size + 1)).run P w' = .ok r'.pending W ∧ Mem w0 ((M x).set i (.obj (w.heap.size + 1) (.loop R)) ++ m0) W :=
      ⟨_, _, run_endLoop (P := P) (Mem.heapObj hmem hi) hnb, Mem.putObj hmem hi⟩
    have hst : Sl n (dmark w.heap.size :: D) l { a with defers := [dmark w.heap.size] ++ a.defers } := ⟨by simp [hs.1.d], hs.1.size, hs.1.at_⟩
    refine ⟨_, _, hrun, ?_⟩
    rcases hend R with ⟨hp, hw⟩ | ⟨hp, hw⟩ | ⟨id, hp, hw⟩
    · rw [hp]
      unfold WE at hw
      exact hw _ _ ⟨hst, hmem'⟩
    · rw [hp]
      unfold WE at hw
      exact wpIn_ret (hw _ _ ⟨hst, hmem'⟩)
    · rw [hp]
      unfold WE at hw
      exact wpIn_exit (hw _ _ ⟨hst, hmem'⟩)
end

/-! ### A function that holds such a loop -/
section
variable {α : Type} {P : Program} {f : FuncId} {w0 : World} {m m0 : List Res} {φ : α → Prop} {val : α → Value} {M : α → List Res}
abbrev bpM (P : Program) (fn : Func) (R : Ending → World → Prop) : Po := bodyPostM Fence.wide 0 P fn R
theorem Ct.ofM {fn : Func} {c : Code} {args : List Value} (hf : P.funcs[f]? = some fn) (hb : fn.body = some c) (hname : (fn.name == "runtime.NumGoroutine") = false) (hn : Nat.ble args.length fn.ntmps = true)
    (h : WC ⟨none, P, fn.ntmps, [], w0, m0⟩ (bpM P fn (sp w0 m0 φ val M)) c (slotsOf 0 args) m) : Ct P f args w0 m m0 φ val M := by
  unfold Ct
  refine ⟨⟨fn, hf, hname, by rw [hb]; rfl⟩, fun w hw => ?_⟩
  have hn' : args.length ≤ fn.ntmps := by simpa using hn
  unfold WC at h
  refine callsIn_wide.1 (callsIn_of_wp_marks (n := 0) hf hb trivial (h _ w ⟨⟨rfl, ?_, ?_⟩, hw⟩))
  · simp; omega
  · intro s v hv
    obtain ⟨_, h2⟩ := lk_slotsOf args 0 s v hv
    have hlt := (List.getElem?_eq_some_iff.1 h2).1
    simp only [Nat.sub_zero] at h2 hlt
    rw [Array.getD_eq_getD_getElem?, Array.getElem?_append_left (by simpa using hlt)]
    simp [h2]
end

section
variable {α : Type} {C : Cx} {l : List (Nat × Value)} {m : List Res} {fn : Func} {φ : α → Prop} {val : α → Value} {M : α → List Res}
/-- Two results, in cells. -/
theorem results_cell2 {fn : Func} {a b t u : Nat} {tmps : Array Value} {P : Program} {w : World} {A B : Addr} {v1 v2 : Value} {d1 d2 : TypeDesc} (h : fn.results = #[.cell a t, .cell b u]) (ha : tmps.getD a undef = .pointer (some A)) (hb : tmps.getD b undef = .pointer (some B))
    (ht : P.underlying t = some d1) (h1 : oneTy d1 = true) (hu : P.underlying u = some d2) (h2 : oneTy d2 = true) (hc1 : w.cell? A = some v1) (hc2 : w.cell? B = some v2) : (results fn tmps).run P w = .ok (.tuple #[v1, v2]) w := by
  simp only [Array.getD_eq_getD_getElem?] at ha hb
  simp [results, h, ha, hb, asAddr, run_loadVar_one ht h1, run_loadVar_one hu h2, hc1, hc2]
theorem WE.retMc2 {p q : Nat} {t u : TypeId} {d1 d2 : TypeDesc} {b1 b2 : Nat} {e1 e2 : TypeId} {v1 v2 : Value} (x : α) (hres : fn.results = #[.cell p t, .cell q u]) (hD : C.D = []) (ht : C.P.underlying t = some d1) (h1 : oneTy d1 = true) (hu : C.P.underlying u = some d2) (h2 : oneTy d2 = true)
    (hp : lk p l = some (.pointer (some ⟨b1, 0, none⟩))) (hq : lk q l = some (.pointer (some ⟨b2, 0, none⟩))) (i j : Nat) (hi : m[i]? = some (.blk b1 [v1] e1)) (hj : m[j]? = some (.blk b2 [v2] e2)) (hv : val x = .tuple #[v1, v2]) (hφ : φ x) (hM : ∀ w, Mem C.w0 (m ++ C.m0) w → Mem C.w0 (M x ++ C.m0) w) :
    WE C (bpM C.P fn (sp C.w0 C.m0 φ val M)) .ret l m := by
  unfold WE
  intro a w hs
  have g1 := ((Mem.appL hs.2).all i _ hi).2
  have g2 := ((Mem.appL hs.2).all j _ hj).2
  show LeavesInM _ _ _ _ _ _ a.defers _ _
  rw [hs.1.d, hD]
  have c1 : w.cell? ⟨b1, 0, none⟩ = some v1 := by rw [cell_of_row w b1 0 _ e1 (0, 0) g1]; rfl
  have c2 : w.cell? ⟨b2, 0, none⟩ = some v2 := by rw [cell_of_row w b2 0 _ e2 (0, 0) g2]; rfl
  exact ⟨_, results_cell2 hres (hs.1.at_ p _ hp) (hs.1.at_ q _ hq) ht h1 hu h2 c1 c2, x, hφ, by rw [hv], hM w hs.2⟩
theorem WE.retM1c2 {p q : Nat} {t u : TypeId} {d1 d2 : TypeDesc} {b1 b2 dk : Nat} {e1 e2 : TypeId} {v1 v2 : Value} (x : α) (hres : fn.results = #[.cell p t, .cell q u]) (hD : C.D = [dmark dk]) (ht : C.P.underlying t = some d1) (h1 : oneTy d1 = true) (hu : C.P.underlying u = some d2) (h2 : oneTy d2 = true)
    (hp : lk p l = some (.pointer (some ⟨b1, 0, none⟩))) (hq : lk q l = some (.pointer (some ⟨b2, 0, none⟩))) (i j k : Nat) (hi : m[i]? = some (.blk b1 [v1] e1)) (hj : m[j]? = some (.blk b2 [v2] e2)) (hk : m[k]? = some (.obj dk (.deferred (some [])))) (hki : k ≠ i) (hkj : k ≠ j) (hv : val x = .tuple #[v1, v2]) (hφ : φ x) (hM : ∀ w, Mem C.w0 (m.set k (.obj dk (.deferred none)) ++ C.m0) w → Mem C.w0 (M x ++ C.m0) w) :
    WE C (bpM C.P fn (sp C.w0 C.m0 φ val M)) .ret l m := by
  unfold WE
  intro a w hs
  have hw' : Mem C.w0 (m.set k (.obj dk (.deferred none)) ++ C.m0) (w.putObj dk (.deferred none)) := Mem.putObj hs.2 hk
  have g1 : Res.at C.w0.heap.size _ (.blk b1 [v1] e1) := (Mem.appL hw').all i _ (by rw [List.getElem?_set_ne hki]; exact hi)
  have g2 : Res.at C.w0.heap.size _ (.blk b2 [v2] e2) := (Mem.appL hw').all j _ (by rw [List.getElem?_set_ne hkj]; exact hj)
  have g1 := g1.2
  have g2 := g2.2
  show LeavesInM _ _ _ _ _ _ a.defers _ _
  rw [hs.1.d, hD]
  refine ⟨by simp, .inl ⟨dk, _, rfl, run_takeDeferred (Mem.heapObj hs.2 hk), ?_⟩⟩
  have c1 : (w.putObj dk (.deferred none)).cell? ⟨b1, 0, none⟩ = some v1 := by rw [cell_of_row _ b1 0 _ e1 (0, 0) g1]; rfl
  have c2 : (w.putObj dk (.deferred none)).cell? ⟨b2, 0, none⟩ = some v2 := by rw [cell_of_row _ b2 0 _ e2 (0, 0) g2]; rfl
  exact ⟨_, results_cell2 hres (hs.1.at_ p _ hp) (hs.1.at_ q _ hq) ht h1 hu h2 c1 c2, x, hφ, by rw [hv], hM _ hw'⟩
end
attribute [irreducible] YCt
end Go.Gp
