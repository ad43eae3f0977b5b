/- label.All: the walk. -/
import Derived.Test.YthnabbidlmihbaaParts
import Derived.Test.YthnabbidlmihbaaOne
import Derived.Test.YthnabbidlmihbaaJoin2
set_option linter.unusedVariables false
namespace Go.Proofs.Ythnabbidlmihbaa
open Go.RowKit Go.Gp

/-- The parts, each for itself. -/
def partsS : List (List Int) → Option (List ByteArray)
  | [] => some []
  | p :: ps => match oneP p with
    | none => none
    | some s => (partsS ps).map (s :: ·)
def foldP (l : List Int) : List Int := compR (mapAll l)
/-- A whole name; 2: it has no form; 3: it is empty. -/
def allP (l : List Int) : Except Int ByteArray :=
  if okAll l = false then .error 2
  else match partsS (splitP 46 (foldP l)) with
    | none => .error 2
    | some ss => if joinP dotB ss = ⟨#[]⟩ then .error 3 else .ok (joinP dotB ss)
def allV : Except Int ByteArray → List (Nat × ByteArray) → Value
  | .ok s, _ => .tuple #[.string s, .nilIface]
  | .error n, L => .tuple #[.string ⟨#[]⟩, ecv L n]
def allM : Except Int ByteArray → List (Nat × ByteArray) → List Res
  | .ok _, _ => []
  | .error n, L => ecm L n

/-- What the loop has made. -/
structure AS where
  done : List ByteArray
  p : Option Addr × Nat
  err : Option Nat
def lrec (r : Loop) : Option Nat → Loop
  | none => { r with state := .ready, pending := none }
  | some _ => { r with state := .done, pending := some .ret }
theorem lrec_none {r : Loop} (h1 : r.state = .ready) (h2 : r.pending = none) : r = lrec r none := by
  cases r
  simp only at h1 h2
  subst h1 h2
  rfl
def aerrV : Option Nat → Value
  | none => .nilIface
  | some b => ecv [(b, sLabel)] 2
def aerrM : Option Nat → List Res
  | none => []
  | some b => ecm [(b, sLabel)] 2
def AJ (r : Loop) (lp b2 b3 b6 : Nat) (s : AS) : List Res :=
  .obj lp (.loop (lrec r s.err)) :: .blk b2 [.string ⟨#[]⟩] 9 :: .blk b3 [aerrV s.err] 25 :: .blk b6 [.slice s.p.1 s.done.length s.p.2] 35 ::
    .own s.p.1 s.p.2 s.done.length (strsV s.done) 9 1 :: aerrM s.err
def AR (s : AS) (p : List Int) (s' : AS) (b : Bool) : Prop :=
  match oneP p with
  | none => b = false ∧ s'.err.isSome = true
  | some t => b = true ∧ s'.done = s.done ++ [t] ∧ s'.err = none
def APre (N : Nat) (ps : List (List Int)) (s : AS) : Prop := s.err = none ∧ s.done.length + ps.length ≤ N ∧ ∀ q ∈ ps, q.length ≤ 16000
theorem AR_runs : ∀ (ps : List (List Int)) (s t : AS), s.err = none → Runs AR ps s t → (∃ ss, partsS ps = some ss ∧ t.done = s.done ++ ss ∧ t.err = none) ∨ (partsS ps = none ∧ ∃ b, t.err = some b)
  | [], s, t, h0, h => by
    have e : s = t := h
    subst e
    exact .inl ⟨[], rfl, by simp, h0⟩
  | p :: ps, s, t, h0, h => by
    obtain ⟨s', b, hR, h⟩ := h
    unfold AR at hR
    rw [partsS]
    cases ho : oneP p with
    | none =>
      rw [ho] at hR
      obtain ⟨rfl, h2⟩ := hR
      have e : s' = t := by simpa using h
      subst e
      exact .inr ⟨rfl, Option.isSome_iff_exists.1 h2⟩
    | some u =>
      rw [ho] at hR
      obtain ⟨rfl, h2, h3⟩ := hR
      rcases AR_runs ps s' t h3 (by simpa using h) with ⟨ss, g1, g2, g3⟩ | ⟨g1, g2⟩
      · exact .inl ⟨u :: ss, by simp [g1], by simp [g2, h2], g3⟩
      · exact .inr ⟨by simp [g1], g2⟩
theorem partsS_props : ∀ (ps : List (List Int)) (ss : List ByteArray), partsS ps = some ss → ss.length = ps.length ∧ ∀ t ∈ ss, ∃ p ∈ ps, oneP p = some t
  | [], ss, h => by
    have : ss = [] := by simpa [partsS] using h.symm
    subst this
    simp
  | p :: ps, ss, h => by
    rw [partsS] at h
    cases ho : oneP p with
    | none => rw [ho] at h; cases h
    | some u =>
      rw [ho] at h
      cases hr : partsS ps with
      | none => rw [hr] at h; cases h
      | some rr =>
        rw [hr] at h
        obtain ⟨h1, h2⟩ := partsS_props ps rr hr
        have e : ss = u :: rr := by simpa using h.symm
        subst e
        refine ⟨by simp [h1], fun t ht => ?_⟩
        rcases List.mem_cons.1 ht with ht | ht
        · exact ⟨p, by simp, by rw [ht]; exact ho⟩
        · obtain ⟨q, hq, e⟩ := h2 t ht
          exact ⟨q, by simp [hq], e⟩
theorem Ct.frame {α : Type} {P : Program} {f : FuncId} {args : List Value} {w0 : World} {m m1 m2 m0 : List Res} {φ : α → Prop} {val : α → Value} {M : α → List Res} (h : Ct P f args w0 m1 (m2 ++ m0) φ val M) (hM : ∀ w, Mem w0 (m ++ m0) w → Mem w0 ((m1 ++ m2) ++ m0) w) :
    Ct P f args w0 m m0 φ val (fun x => M x ++ m2) := by
  unfold Ct at h ⊢
  refine ⟨h.1, fun w hw => (h.2 w (by rw [← List.append_assoc]; exact hM w hw)).mono ?_⟩
  rintro e w' ⟨x, hx, he, hm⟩
  exact ⟨x, hx, he, by rw [List.append_assoc]; exact hm⟩

set_option maxRecDepth 100000 in
theorem all_spec (A : Option Addr) (c : Nat) (l : List Int) (hn : l.length ≤ 1000000) (hl : R32 l) (hp : okAll l = true → (foldP l).length ≤ 900000 ∧ ∀ q ∈ splitP 46 (foldP l), q.length ≤ 16000 ∧ ∀ t, oneP q = some t → t.size ≤ 500000) (w0 : World) (m0 : List Res) (hA : Rd w0 m0 A (runes l)) :
    Ct (α := List (Nat × ByteArray)) Try.prog 5 [.slice A l.length c] w0 [] m0 (fun L => L ≠ []) (allV (allP l)) (allM (allP l)) := by
  refine Ct.ofM Try.func5 rfl (by kernel_rfl) rfl ?_
  (refine c_sq fun k10 h10 => c_rg <| r_al (z := .string ⟨#[]⟩) (cs := [.string ⟨#[]⟩]) (fun _ => by kernel_rfl) rfl rfl (fun _ => ?_); refine r_al (z := .nilIface) (cs := [.nilIface]) (fun _ => by kernel_rfl) rfl rfl (fun _ => ?_); refine r_nx h10 <| c_sq fun k14 h14 => c_rg <| r_mv rfl rfl ?_; rotate_left)
  rename_i b2 b3
  rcases Bool.eq_false_or_eq_true (okAll l) with hok | hok
  · obtain ⟨hF, hparts⟩ := hp hok
    refine WX.call (m1 := []) (m2 := _) rfl rfl rfl (fold_ok A c l (by omega) hl hok _ _ (hA.app _)) rfl rfl (fun p _ => ?_)
    have hfp : compR (mapAll l) = foldP l := rfl
    rw [hfp]
    have hall : allP l = match partsS (splitP 46 (foldP l)) with
      | none => .error 2
      | some ss => if joinP dotB ss = ⟨#[]⟩ then .error 3 else .ok (joinP dotB ss) := by
      unfold allP
      rw [if_neg (by rw [hok]; decide)]
    generalize foldP l = F at hF hparts hall ⊢
    refine WX.room 0 rfl (fun hpc => ?_)
    (refine r_mv rfl rfl <| r_ex rfl rfl rfl <| r_ex rfl rfl rfl <| r_as rfl rfl <| r_as rfl rfl <| r_nx h14 <| c_sq fun k27 h27 => c_sq fun k29 h29 => c_rg <| r_mv rfl rfl <| r_bk (.bool false) rfl rfl (fun _ => by kernel_rfl) rfl <| r_nx h29 <| c_cF rfl <| c_sk <| WE.then_n h27 <| c_sq fun k31 h31 => c_rg <| r_al (z := .slice none 0 0) (cs := [.slice none 0 0]) (fun _ => by kernel_rfl) rfl rfl (fun _ => ?_); refine r_nx h31 ?_; rotate_left)
    refine c_sqD (fun K hK => ?_)
    (refine c_sq fun k36 h36 => c_rg <| r_mv rfl rfl ?_; rotate_left)
    rename_i b6
    refine WX.call (m1 := []) (m2 := _) rfl rfl rfl (parts_spec p.1 F.length p.2 _ _) rfl rfl (fun bp _ => ?_)
    (refine r_nx h36 <| c_bl ?_; rotate_left)
    refine WC.range rfl (fun dk lp r hr1 hr2 hr3 hr4 hr5 hsl => ?_)
    have hspl := splitP_len 46 F
    refine ⟨AS, fun t => Runs AR (splitP 46 F) ⟨[], (none, 0), none⟩ t, fun _ => .tuple #[], fun t => AJ r lp b2 b3 b6 t ++ [OwnR p F, .obj dk (.deferred (some []))], ?_, ?_⟩
    · refine Ct.frame (m1 := .blk bp [.slice p.1 F.length p.2] 22 :: AJ r lp b2 b3 b6 ⟨[], (none, 0), none⟩) (m2 := [OwnR p F, .obj dk (.deferred (some []))]) ?_ ?_
      · refine parts1_spec lp bp (AJ r lp b2 b3 b6) (APre 1000000) AR F p.1 p.2 (by omega) hpc w0 _ (Rd.own 0 rfl) _ ⟨rfl, by dsimp only; simp; omega, fun q hq => (hparts q hq).1⟩ ?_ ?_
        · rintro s q ps s' ⟨h1, h2, h3⟩ hR
          unfold AR at hR
          cases ho : oneP q with
          | none => rw [ho] at hR; cases hR.1
          | some u =>
            rw [ho] at hR
            refine ⟨hR.2.2, ?_, fun q' hq' => h3 q' (by simp [hq'])⟩
            rw [hR.2.1]
            simp at h2 ⊢
            omega
        · rintro ⟨done, p', err⟩ q ps B c' mm ⟨h1, h2, h3⟩ hqc hB
          dsimp only at h1 h2
          subst h1
          have hq := h3 q (by simp)
          have hr3' : (lrec r none).params = #[22] := hr3
          refine YCt.of (r := lrec r none) 0 hr3' rfl hsl rfl ?_
          rw [show (lrec r none).assign = _ from hr4, show (lrec r none).body = _ from hr5]
          clear hr4 hr5 hr3 hr3' hsl hspl
          (refine c_rg <| r_as rfl rfl <| r_nl ?_; rotate_left)
          refine WE.begin (r := lrec r none) 0 rfl rfl ?_
          simp only [AJ, aerrM, aerrV]
          (refine c_bl <| c_sq fun k64 h64 => c_rg <| r_mv rfl rfl ?_; rotate_left)
          refine WX.call (m1 := []) (m2 := _) rfl rfl rfl (one_spec B c' q hq _ _ (hB.app _)) rfl rfl (fun b _ => ?_)
          have hAR : ∀ s' bb, AR ⟨done, p', none⟩ q s' bb ↔ match oneP q with
            | none => bb = false ∧ s'.err.isSome = true
            | some t => bb = true ∧ s'.done = done ++ [t] ∧ s'.err = none := fun _ _ => Iff.rfl
          generalize oneP q = ro at hAR ⊢
          cases ro with
          | none =>
            simp only [oneV, oneM, ecv, ecm]
            (refine r_mv rfl rfl <| r_ex rfl rfl rfl <| r_ex rfl rfl rfl <| r_as rfl rfl <| r_as rfl rfl <| r_nx h64 <| c_sq fun k69 h69 => c_sq fun k71 h71 => c_rg <| r_mv rfl rfl <| r_bk (.bool true) rfl rfl (fun _ => by kernel_rfl) rfl <| r_nx h71 <| c_cT rfl <| c_sq fun k73 h73 => c_rg <| r_mv rfl rfl <| r_st 2 (by kernel_rfl) rfl rfl rfl rfl rfl rfl rfl <| r_st 3 (by kernel_rfl) rfl rfl rfl rfl rfl rfl rfl <| r_nx h73 <| c_rt <| WE.then_r <| WE.blk_r ?_; rotate_left)
            exact WE.round_r 1 (⟨done, p', some b⟩, false) rfl rfl ((hAR _ _).2 ⟨rfl, rfl⟩) (Mem.pick [1, 2, 3, 4, 5, 0] (by decide) rfl)
          | some u =>
            simp only [oneV, oneM]
            (refine r_mv rfl rfl <| r_ex rfl rfl rfl <| r_ex rfl rfl rfl <| r_as rfl rfl <| r_as rfl rfl <| r_nx h64 <| c_sq fun k72 h72 => c_sq fun k74 h74 => c_rg <| r_mv rfl rfl <| r_bk (.bool false) rfl rfl (fun _ => by kernel_rfl) rfl <| r_nx h74 <| c_cF rfl <| c_sk <| WE.then_n h72 <| c_rg <| r_lb 3 Try.underlying35 rfl rfl rfl rfl rfl <| r_mv rfl rfl <| r_bo Try.underlying35 rfl (fun _ => by kernel_rfl) rfl rfl rfl (fun _ => ?_); rotate_left)
            simp at h2
            refine r_am (xs := done) (ys := [u]) 5 (z := .string ⟨#[]⟩) (by_ := 16) (f := (.string ·)) Try.underlying35 (by kernel_rfl) rfl rfl rfl rfl (Rd.own 0 rfl) rfl (fun _ => rfl) (by omega) rfl (fun p2 _ => ?_)
            (refine r_st 4 (by kernel_rfl) rfl rfl rfl rfl rfl rfl rfl <| r_nl <| WE.blk_n ?_; rotate_left)
            exact WE.round_n 1 (⟨done ++ [u], p2, none⟩, true) rfl rfl ((hAR _ _).2 ⟨rfl, rfl, rfl⟩) (Mem.pick [1, 2, 3, 4, 5] (by decide) rfl)
      · intro w hw
        rw [lrec_none hr1 hr2] at hw
        exact Mem.pick [3, 1, 7, 6, 4, 0, 5, 2] (by decide) rfl w (Mem.addNil 9 1 w hw)
    · rintro ⟨done, p', err⟩ ht
      have hspn : (splitP 46 F).length ≤ 900001 := by omega
      rcases AR_runs _ _ _ rfl ht with ⟨ss, g1, g2, g3⟩ | ⟨g1, b, g2⟩
      · dsimp only at g2 g3
        rw [List.nil_append] at g2
        subst g2 g3
        rw [g1] at hall
        refine ⟨lrec r none, 0, rfl, by simp [lrec], fun r'' => .inl ⟨rfl, ?_⟩⟩
        refine WE.blk_n ?_
        refine WE.then_n (hK _) ?_
        simp only [AJ, aerrM, aerrV, List.cons_append, List.nil_append, List.set_cons_zero]
        clear hr4 hr5 hsl hr1 hr2 hr3 hspl ht hK
        obtain ⟨e1, e2⟩ := partsS_props _ _ g1
        have hsz : ∀ s ∈ done, s.size ≤ 500000 := fun s hs => by
          obtain ⟨q, hq, ho⟩ := e2 s hs
          exact (hparts q hq).2 s ho
        dsimp only at hall
        (refine c_sq fun k60 h60 => c_rg <| r_lb 3 Try.underlying35 rfl rfl rfl rfl rfl ?_; rotate_left)
        refine WX.room 4 rfl (fun hdc => ?_)
        refine WX.pure rfl rfl (join_spec p'.1 p'.2 done (by omega) hsz hdc _ _ (Rd.own 4 rfl)) rfl rfl ?_
        generalize joinP dotB done = js at hall ⊢
        (refine r_as rfl rfl <| r_nx h60 <| c_sq fun k65 h65 => c_sq fun k67 h67 => c_rg <| r_mv rfl rfl ?_; rotate_left)
        refine r_seq rfl rfl (fun _ => rfl) rfl ?_
        by_cases hjs : js = ⟨#[]⟩
        · rw [if_pos hjs] at hall
          rw [decide_eq_true hjs]
          (refine r_nx h67 <| c_cT rfl <| c_sq fun k71 h71 => c_rg <| r_mi rfl (fun _ => by kernel_rfl) rfl ?_; rotate_left)
          refine WX.call (m1 := []) (m2 := _) rfl rfl rfl (wrap_spec sLabel [] 3 _ _) rfl rfl (fun b' _ => ?_)
          (refine r_st 2 (by kernel_rfl) rfl rfl rfl rfl rfl rfl rfl <| r_st 3 (by kernel_rfl) rfl rfl rfl rfl rfl rfl rfl <| r_nx h71 <| c_rt <| WE.then_r ?_; rotate_left)
          exact WE.retM1c2 [(b', sLabel)] rfl rfl Try.underlying9 rfl Try.underlying25 rfl rfl rfl 2 3 7 rfl rfl rfl (by decide) (by decide) (by rw [hall]; rfl) (by simp) (by rw [hall]; exact Mem.pick [0] (by decide) rfl)
        · rw [if_neg hjs] at hall
          rw [decide_eq_false hjs]
          (refine r_nx h67 <| c_cF rfl <| c_sk <| WE.then_n h65 <| c_sq fun k71 h71 => c_rg <| r_mv rfl rfl <| r_st 1 (by kernel_rfl) rfl rfl rfl rfl rfl rfl rfl <| r_st 2 (by kernel_rfl) rfl rfl rfl rfl rfl rfl rfl <| r_nx h71 <| c_rt ?_; rotate_left)
          exact WE.retM1c2 [(0, sLabel)] rfl rfl Try.underlying9 rfl Try.underlying25 rfl rfl rfl 1 2 6 rfl rfl rfl (by decide) (by decide) (by rw [hall]; rfl) (by simp) (by rw [hall]; exact Mem.drop)
      · dsimp only at g2
        subst g2
        rw [g1] at hall
        refine ⟨lrec r (some b), 0, rfl, by simp [lrec], fun r'' => .inr (.inl ⟨rfl, ?_⟩)⟩
        refine WE.blk_r ?_
        refine WE.then_r ?_
        simp only [AJ, aerrM, aerrV]
        exact WE.retM1c2 [(b, sLabel)] rfl rfl Try.underlying9 rfl Try.underlying25 rfl rfl rfl 1 2 7 rfl rfl rfl (by decide) (by decide) (by rw [hall]; rfl) (by simp) (by rw [hall]; exact Mem.pick [5] (by decide) rfl)
  · have hall : allP l = .error 2 := by unfold allP; rw [if_pos hok]
    refine WX.call (m1 := []) (m2 := _) rfl rfl rfl (fold_no A c l (by omega) hl hok _ _ (hA.app _)) rfl rfl (fun b _ => ?_)
    simp only [ecv]
    (refine r_mv rfl rfl <| r_ex rfl rfl rfl <| r_ex rfl rfl rfl <| r_as rfl rfl <| r_as rfl rfl <| r_nx h14 <| c_sq fun k20 h20 => c_sq fun k22 h22 => c_rg <| r_mv rfl rfl <| r_bk (.bool true) rfl rfl (fun _ => by kernel_rfl) rfl <| r_nx h22 <| c_cT rfl <| c_sq fun k24 h24 => c_rg <| r_mv rfl rfl ?_; rotate_left)
    refine WX.call (m1 := []) (m2 := _) rfl rfl rfl (wrap_spec sLabel [(b, sFold)] 2 _ _) rfl rfl (fun b' _ => ?_)
    (refine r_st 3 (by kernel_rfl) rfl rfl rfl rfl rfl rfl rfl <| r_st 2 (by kernel_rfl) rfl rfl rfl rfl rfl rfl rfl <| r_nx h24 <| c_rt <| WE.then_r ?_; rotate_left)
    exact WE.retMc2 [(b', sLabel), (b, sFold)] rfl rfl Try.underlying9 rfl Try.underlying25 rfl rfl rfl 3 2 rfl rfl (by rw [hall]; rfl) (by simp) (by rw [hall]; exact Mem.pick [0, 1] (by decide) rfl)
end Go.Proofs.Ythnabbidlmihbaa
