/- Names in letters below 128: the plain laws: what is folded first; two names with a dot between. -/
import Derived.Test.YthnabbidlmihbaaAll
import Derived.Test.YthnabbidlmihbaaLawFold
namespace Go.Proofs.Ythnabbidlmihbaa
open Go.RowKit Go.Gp

theorem _root_.Go.Gp.r_sad {C : Cx} {Q : Po} {l : List (Nat × Value)} {m : List Res} {ops : Array Oper} {rest : List Oper} {ty : TypeId} {pos : String} {af : Array Edge} {g : Option (Nat × Bool)} {b : Bool} {d : Nat} {x y : Operand} {t t' : TypeId} {s u : ByteArray}
    (hx : opv l x = some (.string s)) (hy : opv l y = some (.string u)) (h : okk ops l g d C.n = true) (hb : s.size + u.size ≤ 9223372036854775807) (c : WX b C Q ops rest ((d, .string (s ++ u)) :: l) m) : WX b C Q ops (⟨some d, .binOp .add t x y t', ty, pos, af, g⟩ :: rest) l m :=
  r_bi (s := .string (s ++ u)) hx hy (fun _ _ => rfl) (fun w _ => by
    have := run_string_add_sum (P := C.P) w s u hb
    simp only [binOp]
    exact this) h c
theorem oneP_size {l : List Int} (h : l.length ≤ 150) {t : ByteArray} (ht : oneP l = some t) : t.size ≤ 500000 := by
  have h1 := runesBytes_size_le l
  have h2 := encP_len l
  have h3 : 20 * l.length * (l.length + 1) ≤ 20 * 150 * 151 := Nat.mul_le_mul (by omega) (by omega)
  have e1 : (runesBytes l).size ≤ 500000 := by omega
  have e2 : (aceB ++ strOf (encP l)).size ≤ 500000 := by
    have q1 : aceB.size = 4 := rfl
    have q2 : (strOf (encP l)).size = (encP l).length := by simp [strOf, ByteArray.size]
    rw [ByteArray.size_append]
    omega
  unfold oneP at ht
  split at ht
  · cases ht
  · split at ht
    · split at ht
      · cases ht
      · split at ht
        · cases ht
        · split at ht
          · injection ht with ht; rw [← ht]; exact e1
          · cases ht
    · split at ht
      · split at ht
        · cases ht
        · injection ht with ht; rw [← ht]; exact e2
      · injection ht with ht; rw [← ht]; exact e1
/-- What All's walk asks, for short ones. -/
theorem short_ok {l : List Int} (h : (foldP l).length ≤ 150) : (foldP l).length ≤ 900000 ∧ ∀ q ∈ splitP 46 (foldP l), q.length ≤ 16000 ∧ ∀ t, oneP q = some t → t.size ≤ 500000 := by
  have hs := (splitP_len 46 (foldP l)).2
  refine ⟨by omega, fun q hq => ?_⟩
  have := (hs q hq).1
  exact ⟨by omega, fun t ht => oneP_size (by omega) ht⟩
theorem foldP_len (l : List Int) : (foldP l).length ≤ 2 * l.length := by
  have h1 := mapAll_length l
  have h2 := compR_length (mapAll l)
  unfold foldP
  omega
theorem fold2 {l : List Int} (h : ∀ c ∈ l, -2147483648 ≤ c ∧ c ≤ 2147483647) : okAll (foldP l) = true ∧ foldP (foldP l) = foldP l := fold_once h
theorem foldP_fx {l : List Int} (h : ∀ c ∈ l, -2147483648 ≤ c ∧ c ≤ 2147483647) : ∀ x ∈ foldP l, Fx x := compR_fx (mapAll_fx h)
theorem allP_fold {l : List Int} (h : ∀ c ∈ l, -2147483648 ≤ c ∧ c ≤ 2147483647) (hok : okAll l = true) : allP (foldP l) = allP l := by
  obtain ⟨h1, h2⟩ := fold2 h
  unfold allP
  rw [h1, h2, hok]
theorem allP_no {l : List Int} (hok : okAll l = false) : allP l = .error 2 := by unfold allP; rw [if_pos hok]

/-! ### A dot between -/
theorem pair46 (c : Int) : pairR 46 c = 0 := by
  rcases pair_props 46 c with h | h
  · exact h
  · omega
theorem addR_app (t u : List Int) (c : Int) (hu : u ≠ []) : addR (t ++ u) c = t ++ addR u c := by
  rcases List.eq_nil_or_concat u with rfl | ⟨v, x, rfl⟩
  · exact absurd rfl hu
  · rw [List.concat_eq_append, ← List.append_assoc, addR_end, addR_end]
    split <;> simp
theorem addR_ne (u : List Int) (c : Int) : addR u c ≠ [] := by
  rcases List.eq_nil_or_concat u with rfl | ⟨v, x, rfl⟩
  · simp [addR_nil]
  · rw [List.concat_eq_append, addR_end]
    split <;> simp
theorem foldl_app (Y : List Int) : ∀ (t u : List Int), u ≠ [] → Y.foldl addR (t ++ u) = t ++ Y.foldl addR u := by
  induction Y with
  | nil => intro t u _; rfl
  | cons c Y ih =>
    intro t u hu
    rw [List.foldl_cons, List.foldl_cons, addR_app t u c hu, ih t _ (addR_ne u c)]
theorem foldl_dot (S Y : List Int) : Y.foldl addR (S ++ [46]) = S ++ [46] ++ Y.foldl addR [] := by
  cases Y with
  | nil => simp
  | cons c Y =>
    rw [List.foldl_cons, List.foldl_cons, addR_end, if_neg (by rw [pair46]; exact fun h => h rfl), addR_nil]
    exact foldl_app Y (S ++ [46]) [c] (by simp)
theorem foldP_dot (a b : List Int) : foldP (a ++ [46] ++ b) = foldP a ++ [46] ++ foldP b := by
  have e46 : mapAll [46] = [46] := by decide +kernel
  unfold foldP
  rw [mapAll_append, mapAll_append, e46]
  unfold compR
  rw [List.foldl_append, List.foldl_append]
  simp only [List.foldl_cons, List.foldl_nil]
  rw [addR_low _ (by omega), foldl_dot]
theorem okAll_dot (a b : List Int) : okAll (a ++ [46] ++ b) = (okAll a && okAll b) := by
  have e46 : okAll [46] = true := by decide +kernel
  rw [okAll_append, okAll_append, e46, Bool.and_true]
theorem splitP_dot (a b : List Int) : splitP 46 (a ++ [46] ++ b) = splitP 46 a ++ splitP 46 b := by
  induction a with
  | nil => simp [splitP]
  | cons x a ih =>
    simp only [List.cons_append]
    rw [splitP, splitP]
    split
    · rw [ih]; rfl
    · rw [ih]
      have := splitP_ne 46 a
      cases hs : splitP 46 a with
      | nil => exact absurd hs this
      | cons p ps => rfl
theorem splitP_nodot : ∀ p : List Int, (∀ x ∈ p, x ≠ 46) → splitP 46 p = [p]
  | [], _ => rfl
  | x :: p, h => by
    rw [splitP, if_neg (fun e => h x (by simp) e.symm), splitP_nodot p (fun y hy => h y (by simp [hy]))]
theorem splitP_cut {p r : List Int} (h : ∀ x ∈ p, x ≠ 46) : splitP 46 (p ++ [46] ++ r) = p :: splitP 46 r := by
  rw [splitP_dot, splitP_nodot p h]
  rfl
theorem partsS_app (x y : List (List Int)) : partsS (x ++ y) = (partsS x).bind fun s => (partsS y).map (s ++ ·) := by
  induction x with
  | nil => simp [partsS]
  | cons p x ih =>
    rw [List.cons_append, partsS, partsS]
    cases oneP p with
    | none => rfl
    | some u =>
      simp only
      rw [ih]
      cases partsS x with
      | none => rfl
      | some s =>
        cases partsS y with
        | none => rfl
        | some t => rfl
theorem ba_ext {a b : ByteArray} (h : a.data.toList = b.data.toList) : a = b := by
  cases a; cases b
  simp only at h
  exact congrArg ByteArray.mk (Array.ext' h)
theorem join_data : ∀ l : List ByteArray, l ≠ [] → (joinP dotB l).data.toList = (l.headD ⟨#[]⟩).data.toList ++ tailJ dotB (l.drop 1)
  | [], h => absurd rfl h
  | [s], _ => by simp [joinP, tailJ]
  | s :: t :: r, _ => by simp [joinP, joinP.strOf']
theorem tailJ_app (x y : List ByteArray) : tailJ dotB (x ++ y) = tailJ dotB x ++ tailJ dotB y := by simp [tailJ]
theorem joinP_app (x y : List ByteArray) (hx : x ≠ []) (hy : y ≠ []) : joinP dotB (x ++ y) = joinP dotB x ++ dotB ++ joinP dotB y := by
  apply ba_ext
  rw [ByteArray.data_append, ByteArray.data_append, Array.toList_append, Array.toList_append, join_data _ (by simp [hx]), join_data x hx, join_data y hy]
  cases x with
  | nil => exact absurd rfl hx
  | cons s x =>
    cases y with
    | nil => exact absurd rfl hy
    | cons t y =>
      have e : tailJ dotB (t :: y) = dotB.data.toList ++ t.data.toList ++ tailJ dotB y := by simp [tailJ]
      simp only [List.cons_append, List.headD_cons, List.drop_succ_cons, List.drop_zero]
      rw [tailJ_app, e]
      simp only [List.append_assoc]
theorem partsS_ne {f : List Int} {ss : List ByteArray} (h : partsS (splitP 46 f) = some ss) : ss ≠ [] := by
  have := (partsS_props _ _ h).1
  have h2 := splitP_ne 46 f
  intro e
  subst e
  exact h2 (List.eq_nil_of_length_eq_zero this.symm)
/-- How All's answers come about. -/
theorem allP_ok {l : List Int} {s : ByteArray} (h : allP l = .ok s) : okAll l = true ∧ ∃ ss, partsS (splitP 46 (foldP l)) = some ss ∧ s = joinP dotB ss := by
  unfold allP at h
  split at h
  · cases h
  · rename_i hok
    refine ⟨by simpa using hok, ?_⟩
    cases hp : partsS (splitP 46 (foldP l)) with
    | none => rw [hp] at h; cases h
    | some ss =>
      rw [hp] at h
      simp only at h
      split at h
      · cases h
      · injection h with h
        exact ⟨ss, rfl, h.symm⟩
theorem joinP_size (ss : List ByteArray) (h : ∀ s ∈ ss, s.size ≤ 500000) : (joinP dotB ss).size ≤ 500001 * ss.length := by
  cases ss with
  | nil => exact Nat.le_refl 0
  | cons s ss =>
    have h1 := join_data (s :: ss) (by simp)
    have h2 := congrArg List.length h1
    have h3 := tailJ_len ss
    have h4 := sumN_le ss (fun t ht => h t (by simp [ht]))
    have h5 := h s (by simp)
    simp only [List.headD_cons, List.drop_succ_cons, List.drop_zero, List.length_append] at h2
    have e1 : (joinP dotB (s :: ss)).data.toList.length = (joinP dotB (s :: ss)).size := by simp
    have e2 : s.data.toList.length = s.size := by simp
    rw [e1, e2, h3] at h2
    rw [List.length_cons]
    omega
theorem allP_size {l : List Int} (h : ∀ q ∈ splitP 46 (foldP l), ∀ t, oneP q = some t → t.size ≤ 500000) {s : ByteArray} (hs : allP l = .ok s) : s.size ≤ 500001 * ((foldP l).length + 1) := by
  obtain ⟨_, ss, h2, rfl⟩ := allP_ok hs
  obtain ⟨g1, g2⟩ := partsS_props _ _ h2
  have h3 := joinP_size ss (fun s hs => by
    obtain ⟨q, hq, ho⟩ := g2 s hs
    exact h q hq s ho)
  have h4 := (splitP_len 46 (foldP l)).1
  have h5 : 500001 * ss.length ≤ 500001 * ((foldP l).length + 1) := Nat.mul_le_mul_left _ (by omega)
  omega
theorem allP_dot_ok {a b : List Int} {s t : ByteArray} (ha : allP a = .ok s) (hb : allP b = .ok t) : allP (a ++ [46] ++ b) = .ok (s ++ dotB ++ t) := by
  obtain ⟨a1, sa, a2, rfl⟩ := allP_ok ha
  obtain ⟨b1, sb, b2, rfl⟩ := allP_ok hb
  have hj := joinP_app sa sb (partsS_ne a2) (partsS_ne b2)
  unfold allP
  rw [okAll_dot, a1, b1, foldP_dot, splitP_dot, partsS_app, a2, b2]
  simp only [Bool.and_self, Option.bind_some, Option.map_some]
  rw [if_neg (by decide), hj, if_neg]
  intro e
  have := congrArg ByteArray.size e
  rw [ByteArray.size_append, ByteArray.size_append] at this
  have e1 : dotB.size = 1 := rfl
  have e2 : (⟨#[]⟩ : ByteArray).size = 0 := rfl
  omega
theorem allP_bad {l : List Int} (h : allP l = .error 2) : okAll l = false ∨ partsS (splitP 46 (foldP l)) = none := by
  unfold allP at h
  split at h
  · exact .inl (by assumption)
  · cases hp : partsS (splitP 46 (foldP l)) with
    | none => exact .inr rfl
    | some ss =>
      rw [hp] at h
      simp only at h
      split at h
      · injection h with h; cases h
      · cases h
theorem allP_dot_bad {a b : List Int} (h : allP a = .error 2 ∨ allP b = .error 2) : allP (a ++ [46] ++ b) = .error 2 := by
  have key : (okAll a = false ∨ okAll b = false) ∨ (partsS (splitP 46 (foldP a)) = none ∨ partsS (splitP 46 (foldP b)) = none) := by
    rcases h with h | h <;> rcases allP_bad h with h | h
    · exact .inl (.inl h)
    · exact .inr (.inl h)
    · exact .inl (.inr h)
    · exact .inr (.inr h)
  unfold allP
  rw [okAll_dot, foldP_dot, splitP_dot, partsS_app]
  rcases key with h | h
  · rw [if_pos]
    rcases h with h | h <;> rw [h] <;> simp
  · have e : ((partsS (splitP 46 (foldP a))).bind fun s => (partsS (splitP 46 (foldP b))).map (s ++ ·)) = none := by
      rcases h with h | h <;> rw [h]
      · rfl
      · cases partsS (splitP 46 (foldP a)) <;> rfl
    rw [e]
    split <;> rfl
end Go.Proofs.Ythnabbidlmihbaa
