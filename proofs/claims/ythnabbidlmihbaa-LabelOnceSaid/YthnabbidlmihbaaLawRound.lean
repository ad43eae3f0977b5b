/- Punycode there and back, in plain Lean: what was told is read as it was. -/
import Derived.Test.YthnabbidlmihbaaLawEnc
import Derived.Test.YthnabbidlmihbaaDecode
import Derived.Test.YthnabbidlmihbaaEncode
set_option linter.unusedVariables false
namespace Go.Proofs.Ythnabbidlmihbaa
open Go.RowKit Go.Gp

theorem dig_read {n : Int} (h : 0 ≤ n) (h2 : n < 36) : valD (lowB (dig n)) = n := by
  have key : ∀ i : Fin 36, valD (lowB (dig (i.1 : Int))) = (i.1 : Int) := by decide +kernel
  have := key ⟨n.toNat, by omega⟩
  simp only at this
  rwa [show ((n.toNat : Nat) : Int) = n by omega] at this
/-- A number told by digits is read as itself. -/
theorem num_read (bias Q0 : Int) (hQ : 35 * Q0 ≤ 1099511627776) (rest : List UInt8) : ∀ (f : Nat) (q : Int) (a : Nat) (i w : Int), 0 ≤ q → q < 10 ^ f → 0 ≤ i → 1 ≤ w → i + q * w = Q0 →
    readL bias (numL bias (f + 1) q (((a : Int) + 1) * 36) ++ rest) a i w = (Q0, (a : Int) + (numL bias (f + 1) q (((a : Int) + 1) * 36)).length) := by
  intro f
  induction f with
  | zero =>
    intro q a i w h1 h2 h3 h4 h6
    have hq : q = 0 := by simp only [Int.pow_zero] at h2; omega
    have ht := thrP_bd (((a : Int) + 1) * 36) bias
    subst hq
    rw [numL, if_pos (by omega)]
    rw [List.cons_append, readL, dig_read (by omega) (by omega), if_neg (by omega), if_pos (by omega), h6]
    rfl
  | succ f ih =>
    intro q a i w h1 h2 h3 h4 h6
    have ht := thrP_bd (((a : Int) + 1) * 36) bias
    have hk : (((a + 1 : Nat) : Int) + 1) * 36 = ((a : Int) + 1) * 36 + 36 := by omega
    have ih' := ih ((q - thrP (((a : Int) + 1) * 36) bias) / (36 - thrP (((a : Int) + 1) * 36) bias)) (a + 1)
    rw [hk] at ih'
    have hqw : 0 ≤ q * w := Int.mul_nonneg h1 (by omega)
    rw [numL]
    by_cases hlt : q < thrP (((a : Int) + 1) * 36) bias
    · rw [if_pos hlt, List.cons_append, readL, dig_read h1 (by omega), if_neg (by omega), if_pos hlt, h6]
      rfl
    · rw [if_neg hlt, List.cons_append, readL]
      generalize thrP (((a : Int) + 1) * 36) bias = T at ht ih' hlt ⊢
      have r1 : 0 ≤ (q - T) % (36 - T) := Int.emod_nonneg _ (by omega)
      have r2 : (q - T) % (36 - T) < 36 - T := Int.emod_lt_of_pos _ (by omega)
      have r3 : 0 ≤ (q - T) / (36 - T) := Int.ediv_nonneg (by omega) (by omega)
      have r4 : (q - T) / (36 - T) < 10 ^ f := by
        rw [Int.pow_succ] at h2
        refine Int.ediv_lt_of_lt_mul (by omega) ?_
        have h0 : (0 : Int) < 10 ^ f := Int.pow_pos (by decide)
        have : 10 ^ f * 10 ≤ 10 ^ f * (36 - T) := Int.mul_le_mul_of_nonneg_left (by omega) (by omega)
        omega
      have r5 := Int.mul_ediv_add_emod (q - T) (36 - T)
      generalize (q - T) % (36 - T) = r at r1 r2 r5 ⊢
      generalize (q - T) / (36 - T) = q1 at r3 r4 r5 ih' ⊢
      rw [dig_read (by omega) (by omega)]
      have e1 : q * w = (T + r) * w + q1 * (w * (36 - T)) := by
        have : q = T + r + q1 * (36 - T) := by rw [Int.mul_comm q1]; omega
        rw [this, Int.add_mul, Int.mul_assoc, Int.mul_comm (36 - T) w]
      have m1 : 0 ≤ (T + r) * w := Int.mul_nonneg (by omega) (by omega)
      have m2 : 0 ≤ q1 * (w * (36 - T)) := Int.mul_nonneg r3 (Int.mul_nonneg (by omega) (by omega))
      have m3 : 1 * w ≤ q * w := Int.mul_le_mul_of_nonneg_right (by omega) (by omega)
      have m4 : w * (36 - T) ≤ w * 35 := Int.mul_le_mul_of_nonneg_left (by omega) (by omega)
      have m5 : w * 10 ≤ w * (36 - T) := Int.mul_le_mul_of_nonneg_left (by omega) (by omega)
      rw [if_neg (by omega), if_neg (by omega), if_neg (by omega), ih' (i + (T + r) * w) (w * (36 - T)) r3 r4 (by omega) (by omega) (by omega)]
      refine Prod.ext rfl ?_
      simp only [List.length_cons]
      omega
theorem num_ne (bias : Int) (f : Nat) (q k : Int) : numL bias (f + 1) q k ≠ [] := by
  rw [numL]
  split <;> simp
/-- One number of a text. -/
theorem num_readP (bias q : Int) (hq : 0 ≤ q) (hQ : 35 * q ≤ 1099511627776) (rest : List UInt8) : readP (strOf (numP q bias ++ rest)) bias = (q, ((numP q bias).length : Int)) := by
  have h10 : (10 : Int) ^ 19 = 10000000000000000000 := by decide +kernel
  have := num_read bias q hQ rest 19 q 0 0 1 hq (by omega) (by omega) (by omega) (by omega)
  unfold readP numP strOf
  simp only
  rw [show ((0 : Nat) : Int) + 1 = 1 from rfl, Int.one_mul] at this
  rw [this]
  simp
theorem strOf_size (l : List UInt8) : (strOf l).size = l.length := by simp [strOf, ByteArray.size]
theorem strOf_ext (x y : List UInt8) : (strOf (x ++ y)).extract x.length (strOf (x ++ y)).size = strOf y := by
  have e : ∀ s t : ByteArray, s.data = t.data → s = t := fun s t h => by cases s; cases t; simp only at h; rw [h]
  apply e
  rw [ByteArray.data_extract]
  apply Array.ext'
  rw [Array.toList_extract, List.extract_eq_take_drop, strOf_size]
  unfold strOf
  simp only [List.length_append, List.drop_left]
  rw [List.take_of_length_le (by omega)]
/-- One step of the reader. -/
theorem dec_step (F : Nat) (q bias : Int) (rest : List UInt8) (D : List Int) (nd i m : Int) (pos : Nat) (hq : 0 ≤ q) (hi : 0 ≤ i) (hQ : 35 * (i + q) ≤ 1099511627776) (hpos : pos ≤ D.length) (he : i + q = (m - nd) * ((D.length : Int) + 1) + pos) (hm : ScP m) :
    decL (F + 1) (strOf (numP q bias ++ rest)) D nd i bias = decL F (strOf rest) (insL D pos m) m ((pos : Int) + 1) (adaptP q ((D.length : Int) + 1) (decide (i = 0))) := by
  have hne : (numP q bias).length ≠ 0 := fun h => num_ne bias 19 q 36 (List.eq_nil_of_length_eq_zero h)
  have hr := num_readP bias q hq (by omega) rest
  have hx := strOf_ext (numP q bias) rest
  have hs : (strOf (numP q bias ++ rest)).size ≠ 0 := by rw [strOf_size, List.length_append]; omega
  have d1 : (i + q) / ((D.length : Int) + 1) = m - nd := by
    rw [he, Int.add_comm, Int.add_mul_ediv_right _ _ (by omega)]
    rw [Int.ediv_eq_zero_of_lt (by omega) (by omega)]
    omega
  have d2 : (i + q) % ((D.length : Int) + 1) = pos := by
    rw [he, Int.add_comm, Int.add_mul_emod_self_right]
    exact Int.emod_eq_of_lt (by omega) (by omega)
  rw [decL, if_neg hs, hr]
  simp only
  rw [if_neg (by omega), d1, d2, show nd + (m - nd) = m by omega, if_neg (by
    intro h
    rcases h with h | h
    · have := hm.1; omega
    · exact h hm)]
  rw [show ((pos : Int)).toNat = pos by omega, show (((numP q bias).length : Nat) : Int).toNat = (numP q bias).length by omega, hx]

/-- A round of the writer, and what the reader makes of it. -/
theorem in_round (m : Int) (hm : ScP m) (basic : Nat) : ∀ (S P : List Int) (delta bias : Int) (h : Nat) (out : List UInt8) (D : List Int) (nd i : Int),
    D = P.filter (fun c => decide (c ≤ m)) ++ S.filter (fun c => decide (c < m)) → h = D.length → delta = (m - nd) * ((h : Int) + 1) + (P.filter (fun c => decide (c ≤ m))).length - i → 0 ≤ delta → 0 ≤ i → (i = 0 ↔ h = basic) → basic ≤ h → 128 ≤ nd → nd ≤ m → (P ++ S).length ≤ 16000 →
    ∃ (t : List UInt8) (delta' bias' nd' i' : Int) (h' k : Nat), encIn m basic S (delta, bias, h, out) = (delta', bias', h', out ++ t) ∧ h' = ((P ++ S).filter (fun c => decide (c ≤ m))).length ∧ delta' = (m - nd') * ((h' : Int) + 1) + h' - i' ∧ 0 ≤ delta' ∧ 0 ≤ i' ∧ (i' = 0 ↔ h' = basic) ∧ basic ≤ h' ∧ 128 ≤ nd' ∧ nd' ≤ m ∧ k ≤ t.length ∧
      ∀ (F : Nat) (rest : List UInt8), decL (F + k) (strOf (t ++ rest)) D nd i bias = decL F (strOf rest) ((P ++ S).filter (fun c => decide (c ≤ m))) nd' i' bias' := by
  intro S
  induction S with
  | nil =>
    intro P delta bias h out D nd i e1 e2 e3 e4 e5 e6 e7 e8 e9 e10
    simp only [List.filter_nil, List.append_nil] at e1 ⊢
    subst e1
    exact ⟨[], delta, bias, nd, i, h, 0, by simp [encIn], e2, by rw [e3, ← e2], e4, e5, e6, e7, e8, e9, by simp, fun F rest => by simp⟩
  | cons c S ih =>
    intro P delta bias h out D nd i e1 e2 e3 e4 e5 e6 e7 e8 e9 e10
    have eP : P ++ c :: S = (P ++ [c]) ++ S := by simp
    rw [eP] at e10 ⊢
    have hstep : encIn m basic (c :: S) (delta, bias, h, out) = encIn m basic S (encStep m basic (delta, bias, h, out) c) := rfl
    rw [hstep]
    unfold encStep
    dsimp only
    by_cases h1 : c < m
    · have hne : c ≠ m := by omega
      rw [if_pos h1, if_neg hne]
      refine ih (P ++ [c]) (delta + 1) bias h out D nd i ?_ e2 ?_ (by omega) e5 e6 e7 e8 e9 e10
      · rw [e1, List.filter_append, List.filter_cons_of_pos (by simpa using h1), List.filter_cons_of_pos (by simp; omega)]
        simp
      · rw [List.filter_append, List.filter_cons_of_pos (by simp; omega), e3]
        simp
        omega
    · rw [if_neg h1]
      by_cases h2 : c = m
      · subst h2
        rw [if_pos rfl]
        have hP : (P.filter (fun x => decide (x ≤ c))).length ≤ D.length := by rw [e1, List.length_append]; omega
        have hD : D.length ≤ 16000 := by
          rw [e1, List.length_append]
          have q1 : (P.filter (fun x => decide (x ≤ c))).length ≤ P.length := List.length_filter_le _ _
          have q2 : ((c :: S).filter (fun x => decide (x < c))).length ≤ (c :: S).length := List.length_filter_le _ _
          simp at e10 q2 ⊢
          omega
        have hmul : (c - nd) * ((h : Int) + 1) ≤ 1114111 * 16001 := Int.mul_le_mul (by have := hm.1; omega) (by omega) (by omega) (by omega)
        have hins : insL D (P.filter (fun x => decide (x ≤ c))).length c = (P ++ [c]).filter (fun x => decide (x ≤ c)) ++ S.filter (fun x => decide (x < c)) := by
          unfold insL
          rw [e1, List.filter_cons_of_neg (by simp), List.take_left, List.drop_left, List.filter_append, List.filter_cons_of_pos (by simp)]
          simp
        have hil : (insL D (P.filter (fun x => decide (x ≤ c))).length c).length = h + 1 := by rw [insL_length _ _ _ hP, e2]
        obtain ⟨t, delta', bias', nd', i', h', k, g1, g2, g3, g4, g5, g6, g7, g8, g9, g10, g11⟩ := ih (P ++ [c]) 0 (adaptP delta ((h : Int) + 1) (decide (h = basic))) (h + 1) (out ++ numP delta bias) (insL D (P.filter (fun x => decide (x ≤ c))).length c) c ((P.filter (fun x => decide (x ≤ c))).length + 1)
          hins hil.symm (by
            rw [List.filter_append, List.filter_cons_of_pos (by simp)]
            simp) (by omega) (by omega) (by omega) (by omega) (by omega) (by omega) e10
        refine ⟨numP delta bias ++ t, delta', bias', nd', i', h', k + 1, by rw [g1, List.append_assoc], g2, g3, g4, g5, g6, g7, g8, g9, ?_, ?_⟩
        · have : (numP delta bias).length ≠ 0 := fun h => num_ne bias 19 delta 36 (List.eq_nil_of_length_eq_zero h)
          rw [List.length_append]
          omega
        · intro F rest
          rw [List.append_assoc, ← Nat.add_assoc, dec_step (F + k) delta bias (t ++ rest) D nd i c (P.filter (fun x => decide (x ≤ c))).length e4 e5 (by omega) hP (by rw [← e2]; omega) hm]
          have eb : adaptP delta ((D.length : Int) + 1) (decide (i = 0)) = adaptP delta ((h : Int) + 1) (decide (h = basic)) := by rw [← e2, decide_eq_decide.2 e6]
          rw [eb]
          exact g11 F rest
      · rw [if_neg h2]
        refine ih (P ++ [c]) delta bias h out D nd i ?_ e2 ?_ e4 e5 e6 e7 e8 e9 e10
        · rw [e1, List.filter_append, List.filter_cons_of_neg (by simpa using h1), List.filter_cons_of_neg (l := []) (by simp; omega)]
          simp
        · rw [List.filter_append, List.filter_cons_of_neg (by simp; omega), e3]
          simp

/-- All the rounds. -/
theorem out_rounds (l : List Int) (basic : Nat) (hl : Sc l) (hn : l.length ≤ 16000) : ∀ (f : Nat) (n delta bias : Int) (h : Nat) (out : List UInt8) (nd i : Int),
    h = (l.filter (fun c => decide (c < n))).length → delta = (n - nd) * ((h : Int) + 1) - i → 0 ≤ delta → 0 ≤ i → (i = 0 ↔ h = basic) → basic ≤ h → 128 ≤ nd → nd ≤ n → l.length < f + h →
    ∃ (t : List UInt8) (k : Nat), encOut l basic f n (delta, bias, h, out) = out ++ t ∧ k ≤ t.length ∧ ∀ F : Nat, decL (F + k + 1) (strOf t) (l.filter (fun c => decide (c < n))) nd i bias = some l := by
  have hmx : ∀ x ∈ l, x ≤ 1114111 := fun x hx => (hl x hx).1.2
  intro f
  induction f with
  | zero =>
    intro n delta bias h out nd i e1 e2 e3 e4 e5 e6 e7 e8 e9
    have : (l.filter (fun c => decide (c < n))).length ≤ l.length := List.length_filter_le _ _
    omega
  | succ f ih =>
    intro n delta bias h out nd i e1 e2 e3 e4 e5 e6 e7 e8 e9
    have hle : (l.filter (fun c => decide (c < n))).length ≤ l.length := List.length_filter_le _ _
    rw [encOut]
    dsimp only
    by_cases hlt : h < l.length
    · rw [if_pos hlt]
      have hb : below n l < l.length := by unfold below; rw [List.countP_eq_length_filter]; omega
      obtain ⟨hm1, hm2⟩ := minGe_mem hmx hb
      have hmS := hl _ hm1
      have hfil : l.filter (fun c => decide (c < minGe n l)) = l.filter (fun c => decide (c < n)) := by
        have := minGe_props n l hmx
        refine List.filter_congr fun c hc => ?_
        rw [decide_eq_decide]
        constructor
        · intro h5
          refine Classical.byContradiction fun h6 => ?_
          have := this.2.1 c hc (by omega)
          omega
        · intro h5; omega
      have hle2 : ∀ m : Int, l.filter (fun c => decide (c ≤ m)) = l.filter (fun c => decide (c < m + 1)) := fun m => List.filter_congr fun c _ => by rw [decide_eq_decide]; omega
      have q0 : 0 ≤ (minGe n l - n) * ((h : Int) + 1) := Int.mul_nonneg (by omega) (by omega)
      have q1 : (minGe n l - nd) * ((h : Int) + 1) = (n - nd) * ((h : Int) + 1) + (minGe n l - n) * ((h : Int) + 1) := by rw [← Int.add_mul]; congr 1; omega
      obtain ⟨t, delta', bias', nd', i', h', k, g1, g2, g3, g4, g5, g6, g7, g8, g9, g10, g11⟩ := in_round (minGe n l) hmS basic l [] (delta + (minGe n l - n) * ((h : Int) + 1)) bias h out (l.filter (fun c => decide (c < n))) nd i
        (by rw [hfil]; simp) e1 (by rw [q1]; simp; omega) (by omega) e4 e5 e6 e7 (by omega) (by simpa using hn)
      have hcnt : h < h' := by
        rw [g2, e1, ← hfil, List.nil_append, ← List.countP_eq_length_filter, ← List.countP_eq_length_filter]
        have hb2 := below_succ (minGe n l) l
        have hpos : 0 < l.countP (fun c => decide (c = minGe n l)) := List.countP_pos_iff.2 ⟨_, hm1, by simp⟩
        unfold below at hb2
        have : l.countP (fun c => decide (c ≤ minGe n l)) = l.countP (fun c => decide (c < minGe n l + 1)) := List.countP_congr fun c _ => by simp only [decide_eq_true_eq]; omega
        omega
      have hround : encRound l basic n (delta, bias, h, out) = (delta', bias', h', out ++ t) := g1
      rw [hround]
      rw [List.nil_append, hle2] at g2 g11
      have q2 : (minGe n l + 1 - nd') * ((h' : Int) + 1) = (minGe n l - nd') * ((h' : Int) + 1) + ((h' : Int) + 1) := by rw [show minGe n l + 1 - nd' = (minGe n l - nd') + 1 by omega, Int.add_mul, Int.one_mul]
      obtain ⟨t2, k2, j1, j2, j3⟩ := ih (minGe n l + 1) (delta' + 1) bias' h' (out ++ t) nd' i' g2 (by rw [q2, g3]; omega) (by omega) g5 g6 g7 g8 (by omega) (by omega)
      refine ⟨t ++ t2, k2 + k, by rw [j1, List.append_assoc], by rw [List.length_append]; omega, fun F => ?_⟩
      rw [show F + (k2 + k) + 1 = (F + k2 + 1) + k by omega, g11 (F + k2 + 1) t2]
      exact j3 F
    · rw [if_neg hlt]
      have hall : l.filter (fun c => decide (c < n)) = l := by
        have := List.filter_sublist (l := l) (p := fun c => decide (c < n))
        exact this.eq_of_length (by omega)
      refine ⟨[], 0, by simp, by simp, fun F => ?_⟩
      rw [hall, decL, if_pos (by rw [strOf_size]; rfl)]
theorem dig_facts {n : Int} (h : 0 ≤ n) (h2 : n < 36) : (97 ≤ (dig n).toNat ∧ (dig n).toNat ≤ 122) ∨ (48 ≤ (dig n).toNat ∧ (dig n).toNat ≤ 57) := by
  have key : ∀ i : Fin 36, (97 ≤ (dig (i.1 : Int)).toNat ∧ (dig (i.1 : Int)).toNat ≤ 122) ∨ (48 ≤ (dig (i.1 : Int)).toNat ∧ (dig (i.1 : Int)).toNat ≤ 57) := by decide +kernel
  have := key ⟨n.toNat, by omega⟩
  simp only at this
  rwa [show ((n.toNat : Nat) : Int) = n by omega] at this
/-- A letter or a figure. -/
abbrev LF (b : UInt8) : Prop := (97 ≤ b.toNat ∧ b.toNat ≤ 122) ∨ (48 ≤ b.toNat ∧ b.toNat ≤ 57)
theorem numL_LF (bias : Int) : ∀ (f : Nat) (q k : Int), 0 ≤ q → ∀ b ∈ numL bias f q k, LF b
  | 0, _, _, _ => by simp [numL]
  | f + 1, q, k, hq => by
    have ht := thrP_bd k bias
    rw [numL]
    split
    · intro b hb
      rw [List.mem_singleton] at hb
      rw [hb]
      exact dig_facts hq (by omega)
    · intro b hb
      have r1 : 0 ≤ (q - thrP k bias) % (36 - thrP k bias) := Int.emod_nonneg _ (by omega)
      have r2 : (q - thrP k bias) % (36 - thrP k bias) < 36 - thrP k bias := Int.emod_lt_of_pos _ (by omega)
      rcases List.mem_cons.1 hb with hb | hb
      · rw [hb]
        exact dig_facts (by omega) (by omega)
      · exact numL_LF bias f _ _ (Int.ediv_nonneg (by omega) (by omega)) b hb
/-- What a round writes: letters and figures. -/
theorem encIn_LF (m : Int) (basic : Nat) : ∀ (S : List Int) (s : ES), 0 ≤ s.1 → 0 ≤ (encIn m basic S s).1 ∧ ∃ t, (encIn m basic S s).2.2.2 = s.2.2.2 ++ t ∧ (∀ b ∈ t, LF b) ∧ t.length ≤ 20 * S.countP (fun c => decide (c = m)) ∧ (encIn m basic S s).2.2.1 = s.2.2.1 + S.countP (fun c => decide (c = m))
  | [], s, h => ⟨by simpa [encIn] using h, [], by simp [encIn], by simp, by simp, by simp [encIn]⟩
  | c :: S, s, h => by
    have e : encIn m basic (c :: S) s = encIn m basic S (encStep m basic s c) := rfl
    rw [e]
    have hd : 0 ≤ (if c < m then s.1 + 1 else s.1) := by split <;> omega
    have hs : 0 ≤ (encStep m basic s c).1 ∧ (c = m → (encStep m basic s c).2.2.2 = s.2.2.2 ++ numP (if c < m then s.1 + 1 else s.1) s.2.1 ∧ (encStep m basic s c).2.2.1 = s.2.2.1 + 1) ∧ (c ≠ m → (encStep m basic s c).2.2.2 = s.2.2.2 ∧ (encStep m basic s c).2.2.1 = s.2.2.1) := by
      unfold encStep
      dsimp only
      by_cases hc : c = m
      · rw [if_pos hc]
        exact ⟨by dsimp only; omega, fun _ => ⟨rfl, rfl⟩, fun h => absurd hc h⟩
      · rw [if_neg hc]
        exact ⟨hd, fun h => absurd h hc, fun _ => ⟨rfl, rfl⟩⟩
    obtain ⟨i1, t, i2, i3, i4, i5⟩ := encIn_LF m basic S (encStep m basic s c) hs.1
    refine ⟨i1, ?_⟩
    by_cases hc : c = m
    · obtain ⟨h1, h2⟩ := hs.2.1 hc
      have hl := numL_len s.2.1 20 (if c < m then s.1 + 1 else s.1) 36
      have ec : (c :: S).countP (fun c => decide (c = m)) = S.countP (fun c => decide (c = m)) + 1 := by rw [List.countP_cons]; simp [hc]
      refine ⟨numP (if c < m then s.1 + 1 else s.1) s.2.1 ++ t, by rw [i2, h1, List.append_assoc], fun b hb => ?_, ?_, by rw [i5, h2, ec]; omega⟩
      · rcases List.mem_append.1 hb with hb | hb
        · exact numL_LF _ _ _ _ hd b hb
        · exact i3 b hb
      · rw [List.length_append, ec]
        unfold numP
        omega
    · obtain ⟨h1, h2⟩ := hs.2.2 hc
      have ec : (c :: S).countP (fun c => decide (c = m)) = S.countP (fun c => decide (c = m)) := by rw [List.countP_cons]; simp [hc]
      exact ⟨t, by rw [i2, h1], i3, by rw [ec]; exact i4, by rw [i5, h2, ec]⟩
theorem encOut_LF (l : List Int) (basic : Nat) (hl : ∀ c ∈ l, c ≤ 1114111) : ∀ (f : Nat) (n : Int) (s : ES), 0 ≤ s.1 → s.2.2.1 = below n l → ∃ t, encOut l basic f n s = s.2.2.2 ++ t ∧ (∀ b ∈ t, LF b) ∧ t.length + 20 * s.2.2.1 ≤ 20 * l.length
  | 0, n, s, h, h2 => ⟨[], by simp [encOut], by simp, by
      have : below n l ≤ l.length := List.countP_le_length
      simp; omega⟩
  | f + 1, n, s, h, h2 => by
    have hb : below n l ≤ l.length := List.countP_le_length
    rw [encOut]
    by_cases hlt : s.2.2.1 < l.length
    · rw [if_pos hlt]
      obtain ⟨hm1, hm2⟩ := minGe_mem hl (n := n) (by omega)
      have q0 : 0 ≤ (minGe n l - n) * ((s.2.2.1 : Int) + 1) := Int.mul_nonneg (by omega) (by omega)
      obtain ⟨i1, t, i2, i3, i4, i5⟩ := encIn_LF (minGe n l) basic l (s.1 + (minGe n l - n) * (s.2.2.1 + 1), s.2.1, s.2.2.1, s.2.2.2) (by dsimp only; omega)
      have eR : encRound l basic n s = encIn (minGe n l) basic l (s.1 + (minGe n l - n) * (s.2.2.1 + 1), s.2.1, s.2.2.1, s.2.2.2) := rfl
      rw [eR]
      generalize encIn (minGe n l) basic l (s.1 + (minGe n l - n) * (s.2.2.1 + 1), s.2.1, s.2.2.1, s.2.2.2) = r at i1 i2 i5 ⊢
      dsimp only at i2 i5
      have hbs := below_succ (minGe n l) l
      rw [below_min hl hm2, ← h2] at hbs
      obtain ⟨t2, j1, j2, j3⟩ := encOut_LF l basic hl f (minGe n l + 1) (r.1 + 1, r.2) (by dsimp only; omega) (by dsimp only; omega)
      dsimp only at j1 j3
      refine ⟨t ++ t2, by rw [j1, i2, List.append_assoc], fun b hb => ?_, by rw [List.length_append]; omega⟩
      rcases List.mem_append.1 hb with hb | hb
      · exact i3 b hb
      · exact j2 b hb
    · rw [if_neg hlt]
      exact ⟨[], by simp, by simp, by simp; omega⟩
end Go.Proofs.Ythnabbidlmihbaa
