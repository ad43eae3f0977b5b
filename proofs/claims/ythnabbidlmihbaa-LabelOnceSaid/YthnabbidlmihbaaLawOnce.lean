/- The plain law of LabelOnce: what a name is told as is told as itself, in letters below 128, none of them a capital one. -/
import Derived.Test.YthnabbidlmihbaaLawAll
import Derived.Test.YthnabbidlmihbaaLawRound
set_option linter.unusedVariables false
namespace Go.Proofs.Ythnabbidlmihbaa
open Go.RowKit Go.Gp

theorem lastL_eq (L : List UInt8) (c : UInt8) (j : Nat) (hj : L.getD j 0 = c) : ∀ k, j < k → (∀ i, j < i → i < k → L.getD i 0 ≠ c) → lastL L c k = j
  | 0, h, _ => by omega
  | k + 1, h, hn => by
    rw [lastL]
    by_cases e : j = k
    · subst e; rw [if_pos hj]
    · rw [if_neg (hn k (by omega) (by omega))]
      exact lastL_eq L c j hj k (by omega) (fun i h1 h2 => hn i h1 (by omega))
theorem lastL_none (L : List UInt8) (c : UInt8) : ∀ k, (∀ i, i < k → L.getD i 0 ≠ c) → lastL L c k = -1
  | 0, _ => rfl
  | k + 1, hn => by
    rw [lastL, if_neg (hn k (by omega))]
    exact lastL_none L c k (fun i h => hn i (by omega))
theorem LF_ne {b : UInt8} (h : LF b) : b ≠ 45 ∧ b ≠ 46 ∧ b.toNat < 128 ∧ ¬ (65 ≤ b.toNat ∧ b.toNat ≤ 90) := by
  refine ⟨fun e => ?_, fun e => ?_, by omega, by omega⟩
  · subst e; revert h; decide
  · subst e; revert h; decide
theorem basics_mem {l : List Int} (hl : Sc l) {b : UInt8} (hb : b ∈ basics l) : ∃ c ∈ l, c < 128 ∧ (b.toNat : Int) = c := by
  unfold basics at hb
  obtain ⟨c, hc, rfl⟩ := List.mem_map.1 hb
  have h1 := List.mem_filter.1 hc
  have h2 : c < 128 := by simpa using h1.2
  have h3 := (hl c h1.1).1.1
  exact ⟨c, h1.1, h2, b8_toNat h3 (by omega)⟩
/-- What is written, in two parts. -/
theorem encP_parts {l : List Int} (hl : Sc l) (hn : l.length ≤ 16000) : ∃ t : List UInt8, encP l = (if 0 < (basics l).length then basics l ++ [45] else []) ++ t ∧ (∀ b ∈ t, LF b) ∧ t.length ≤ 20 * l.length ∧
    ∃ k, k ≤ t.length ∧ ∀ F : Nat, decL (F + k + 1) (strOf t) (l.filter (fun c => decide (c < 128))) 128 0 72 = some l := by
  have hmx : ∀ x ∈ l, x ≤ 1114111 := fun x hx => (hl x hx).1.2
  have hb := basics_length l
  have hb2 : (l.filter (fun c => decide (c < 128))).length = (basics l).length := by rw [hb, List.countP_eq_length_filter]
  obtain ⟨t, k, h1, h2, h3⟩ := out_rounds l (basics l).length hl hn (l.length + 1) 128 0 72 (basics l).length (if 0 < (basics l).length then basics l ++ [45] else []) 128 0 hb2.symm (by omega) (by omega) (by omega) (by simp) (by omega) (by omega) (by omega) (by omega)
  obtain ⟨t2, g1, g2, g3⟩ := encOut_LF l (basics l).length hmx (l.length + 1) 128 (0, 72, (basics l).length, if 0 < (basics l).length then basics l ++ [45] else []) (Int.le_refl 0) (by rw [hb]; rfl)
  have e : t = t2 := List.append_cancel_left (h1.symm.trans g1)
  subst e
  exact ⟨t, h1, g2, by omega, k, h2, h3⟩
theorem getD_app_r (x y : List UInt8) (i : Nat) (h : x.length ≤ i) : (x ++ y).getD i 0 = y.getD (i - x.length) 0 := by
  rw [List.getD_eq_getElem?_getD, List.getD_eq_getElem?_getD, List.getElem?_append_right h]
theorem getD_mem (y : List UInt8) (i : Nat) (h : i < y.length) : y.getD i 0 ∈ y := by
  rw [List.getD_eq_getElem?_getD, List.getElem?_eq_getElem h]
  exact List.getElem_mem _
/-- PUNYCODE THERE AND BACK. -/
theorem puny_round {l : List Int} (hl : Sc l) (hn : l.length ≤ 16000) : decP (strOf (encP l)) = some l := by
  obtain ⟨t, h1, h2, h3, k, h4, h5⟩ := encP_parts hl hn
  have hany : ∀ b ∈ encP l, b.toNat < 128 := by
    intro b hb
    rw [h1] at hb
    rcases List.mem_append.1 hb with hb | hb
    · split at hb
      · rcases List.mem_append.1 hb with hb | hb
        · obtain ⟨c, _, c2, c3⟩ := basics_mem hl hb
          omega
        · rw [List.mem_singleton] at hb; subst hb; decide
      · simp at hb
    · exact (LF_ne (h2 b hb)).2.2.1
  have hd : (strOf (encP l)).data.toList = encP l := by simp [strOf]
  have hs := strOf_size (encP l)
  unfold decP
  rw [hd, if_neg (by
    rw [Bool.not_eq_true, List.any_eq_false]
    intro b hb
    have := hany b hb
    simp; omega)]
  by_cases h0 : 0 < (basics l).length
  · rw [if_pos h0] at h1
    have hla : lastL (encP l) 45 (strOf (encP l)).size = ((basics l).length : Int) := by
      refine lastL_eq _ _ _ ?_ _ ?_ ?_
      · rw [h1, List.append_assoc, getD_app_r _ _ _ (Nat.le_refl _), Nat.sub_self]
        rfl
      · rw [hs, h1]; simp
      · intro i hi1 hi2 e
        rw [h1, getD_app_r _ _ _ (by simp; omega)] at e
        rw [hs, h1] at hi2
        have hm : t.getD (i - (basics l ++ [45]).length) 0 ∈ t := getD_mem _ _ (by simp at hi2 ⊢; omega)
        rw [e] at hm
        exact (LF_ne (h2 _ hm)).1 rfl
    rw [hla, if_pos (by omega)]
    have e1 : (strOf (encP l)).extract (((basics l).length : Int) + 1).toNat (strOf (encP l)).size = strOf t := by
      have := strOf_ext (basics l ++ [45]) t
      rw [← h1] at this
      rw [show (((basics l).length : Int) + 1).toNat = (basics l ++ [45]).length by simp]
      exact this
    have e2 : asc ((strOf (encP l)).extract 0 (((basics l).length : Nat) : Int).toNat) = l.filter (fun c => decide (c < 128)) := by
      unfold asc
      rw [ByteArray.data_extract, Array.toList_extract, List.extract_eq_take_drop, hd, h1, List.append_assoc]
      simp only [Int.toNat_natCast, Nat.sub_zero, List.drop_zero, List.take_left]
      unfold basics
      rw [List.map_map]
      refine (List.map_congr_left fun c hc => ?_).trans (List.map_id _)
      have h1 := List.mem_filter.1 hc
      have h2 : c < 128 := by simpa using h1.2
      exact b8_toNat (hl c h1.1).1.1 (by omega)
    rw [e1, e2, show (strOf (encP l)).size + 1 = ((strOf (encP l)).size - k) + k + 1 by
      have : t.length ≤ (strOf (encP l)).size := by rw [hs, h1]; simp; omega
      omega]
    exact h5 _
  · rw [if_neg h0, List.nil_append] at h1
    have hla : lastL (encP l) 45 (strOf (encP l)).size = -1 := by
      refine lastL_none _ _ _ ?_
      intro i hi e
      rw [hs, h1] at hi
      have hm : t.getD i 0 ∈ t := getD_mem _ _ hi
      rw [h1] at e
      rw [e] at hm
      exact (LF_ne (h2 _ hm)).1 rfl
    have hf : l.filter (fun c => decide (c < 128)) = [] := List.eq_nil_of_length_eq_zero (by
      have hb := basics_length l
      rw [List.countP_eq_length_filter] at hb
      omega)
    rw [hf] at h5
    rw [hla, if_neg (by omega), h1, show (strOf t).size + 1 = ((strOf t).size - k) + k + 1 by
      have := strOf_size t
      omega]
    exact h5 _

/-! ### Plain letters -/
theorem enc_low {c : Int} (h0 : 0 ≤ c) (h : c < 128) : Utf8.encode c = ⟨#[b8 c]⟩ := by
  have hv : Utf8.valid c = true := by
    unfold Utf8.valid
    simp
    omega
  unfold Utf8.encode b8
  simp only [hv, if_true]
  rw [if_pos (by omega)]
theorem rb_low : ∀ l : List Int, (∀ x ∈ l, 0 ≤ x ∧ x < 128) → runesBytes l = strOf (l.map b8) := by
  have key : ∀ n (l : List Int), l.length = n → (∀ x ∈ l, 0 ≤ x ∧ x < 128) → runesBytes l = strOf (l.map b8) := by
    intro n
    induction n with
    | zero =>
      intro l hn _
      have : l = [] := List.eq_nil_of_length_eq_zero hn
      subst this
      rfl
    | succ n ih =>
      intro l hn hl
      rcases List.eq_nil_or_concat l with rfl | ⟨t, u, rfl⟩
      · simp at hn
      · rw [List.concat_eq_append] at hn hl ⊢
        have hu := hl u (by simp)
        have e : runesBytes (t ++ [u]) = runesBytes t ++ Utf8.encode u := by simp [runesBytes]
        rw [e, ih t (by simpa using hn) (fun x hx => hl x (by simp [hx])), enc_low hu.1 hu.2]
        apply ba_ext
        simp [strOf]
  exact fun l => key l.length l rfl
theorem asc_strOf (l : List Int) (h : ∀ x ∈ l, 0 ≤ x ∧ x < 128) : asc (strOf (l.map b8)) = l := by
  unfold asc strOf
  simp only [List.map_map]
  refine (List.map_congr_left fun c hc => ?_).trans (List.map_id _)
  have := h c hc
  exact b8_toNat this.1 (by omega)
theorem b8_of (b : UInt8) : b8 (b.toNat : Int) = b := by
  unfold b8
  simp
theorem rb_asc (s : ByteArray) (h : ∀ b ∈ s.data.toList, b.toNat < 128) : runesBytes (asc s) = s := by
  rw [rb_low _ (fun x hx => by
    unfold asc at hx
    obtain ⟨b, hb, rfl⟩ := List.mem_map.1 hx
    have := h b hb
    omega)]
  apply ba_ext
  unfold asc strOf
  simp only [List.map_map]
  refine (List.map_congr_left fun b _ => ?_).trans (List.map_id _)
  exact b8_of b
/-- A plain letter, no capital one. -/
abbrev Lw (b : UInt8) : Prop := b.toNat < 128 ∧ ¬ (65 ≤ b.toNat ∧ b.toNat ≤ 90)
theorem lw_fx {b : UInt8} (h : Lw b) : Fx (b.toNat : Int) := by
  refine ⟨?_, ?_, ?_, ?_, ?_, ?_, ?_⟩ <;> omega

/-! ### Parts -/
theorem splitP_mem (l : List Int) : ∀ p ∈ splitP 46 l, ∀ x ∈ p, x ≠ 46 := by
  induction l with
  | nil => simp [splitP]
  | cons c l ih =>
    rw [splitP]
    split
    · intro p hp
      rcases List.mem_cons.1 hp with hp | hp
      · subst hp; simp
      · exact ih p hp
    · rename_i hc
      cases hs : splitP 46 l with
      | nil => exact absurd hs (splitP_ne 46 l)
      | cons q qs =>
        rw [hs] at ih
        intro p hp x hx
        rcases List.mem_cons.1 hp with hp | hp
        · subst hp
          rcases List.mem_cons.1 hx with hx | hx
          · subst hx; exact fun e => hc e.symm
          · exact ih q (by simp) x hx
        · exact ih p (by simp [hp]) x hx
theorem splitP_comp (l : List Int) (h : compR l = l) : ∀ p ∈ splitP 46 l, compR p = p := by
  have key : ∀ n (l : List Int), l.length = n → compR l = l → ∀ p ∈ splitP 46 l, compR p = p := by
    intro n
    induction n using Nat.strongRecOn with
    | _ n ih =>
      intro l hn h p hp
      by_cases hi : idxP 46 l < 0
      · rw [splitP_no 46 l hi, List.mem_singleton] at hp
        rw [hp]; exact h
      · obtain ⟨hk, hs⟩ := splitP_at 46 l (by omega)
        have e46 : l.getD (idxP 46 l).toNat 0 = 46 := by
          unfold idxP findFrom at hi ⊢
          cases hf : l.findIdx? (fun c => decide (46 = c)) with
          | none => rw [hf] at hi; simp at hi
          | some i =>
            obtain ⟨g1, g2, _⟩ := List.findIdx?_eq_some_iff_getElem.1 hf
            simp only [Int.toNat_natCast]
            rw [List.getD_eq_getElem?_getD, List.getElem?_eq_getElem g1]
            have : 46 = l[i] := by simpa using g2
            exact this.symm
        generalize (idxP 46 l).toNat = k at hk hs e46
        have el : l = l.take k ++ [46] ++ l.drop (k + 1) := by
          conv => lhs; rw [← List.take_append_drop k l]
          rw [List.append_assoc]
          congr 1
          rw [List.drop_eq_getElem_cons hk]
          rw [List.getD_eq_getElem?_getD, List.getElem?_eq_getElem hk] at e46
          rw [show l[k] = 46 from e46]
          rfl
        have hc : compR (l.take k ++ [46] ++ l.drop (k + 1)) = compR (l.take k) ++ [46] ++ compR (l.drop (k + 1)) := by
          unfold compR
          rw [List.foldl_append, List.foldl_append]
          simp only [List.foldl_cons, List.foldl_nil]
          rw [addR_low _ (by omega), foldl_dot]
        rw [← el, h] at hc
        have l1 := compR_length (l.take k)
        have l2 := compR_length (l.drop (k + 1))
        have l3 : l.length = (compR (l.take k)).length + 1 + (compR (l.drop (k + 1))).length := by
          conv => lhs; rw [hc]
          simp
          omega
        have l4 : (l.take k).length = k := by simp; omega
        have l5 : (l.drop (k + 1)).length = l.length - (k + 1) := by simp
        have heq : l.take k ++ ([46] ++ l.drop (k + 1)) = compR (l.take k) ++ ([46] ++ compR (l.drop (k + 1))) := by
          rw [← List.append_assoc, ← List.append_assoc, ← el]; exact hc
        obtain ⟨a1, a2⟩ := List.append_inj heq (by omega)
        rw [hs] at hp
        rcases List.mem_cons.1 hp with hp | hp
        · rw [hp]; exact a1.symm
        · have a3 : l.drop (k + 1) = compR (l.drop (k + 1)) := by simpa using a2
          exact ih (l.drop (k + 1)).length (by omega) _ rfl a3.symm p hp
  exact key l.length l rfl h
/-- One part: what it is told as, and what that is told as. -/
theorem one_once {p : List Int} {t : ByteArray} (h : oneP p = some t) (hfx : ∀ x ∈ p, Fx x ∧ x ≠ 46) (hc : compR p = p) (hn : p.length ≤ 700) :
    (∀ b ∈ t.data.toList, Lw b ∧ b ≠ 46) ∧ oneP (asc t) = some t ∧ t.size ≤ 21 * p.length + 5 := by
  have h0 := h
  unfold oneP at h
  split at h
  · cases h
  · rename_i hsc
    have hSc : Sc p := fun x hx => by
      have h2 := List.any_eq_false.1 ((Bool.not_eq_true _).mp hsc) x hx
      exact Classical.byContradiction fun hn => h2 (by rw [decide_eq_false hn]; rfl)
    have plain : p.any (fun c => decide (128 ≤ c)) = false → t = runesBytes p → (∀ b ∈ t.data.toList, Lw b ∧ b ≠ 46) ∧ oneP (asc t) = some t ∧ t.size ≤ 21 * p.length + 5 := by
      intro hp ht
      have hlo : ∀ x ∈ p, 0 ≤ x ∧ x < 128 := fun x hx => by
        have h2 := List.any_eq_false.1 hp x hx
        simp at h2
        exact ⟨(hSc x hx).1.1, h2⟩
      rw [rb_low p hlo] at ht
      have hasc := asc_strOf p hlo
      rw [← ht] at hasc
      refine ⟨fun b hb => ?_, by rw [hasc]; exact h0, by rw [ht, strOf_size]; simp; omega⟩
      rw [ht] at hb
      unfold strOf at hb
      simp only [List.mem_map] at hb
      obtain ⟨x, hx, rfl⟩ := hb
      have hx2 := hlo x hx
      have hv := b8_toNat hx2.1 (by omega)
      obtain ⟨f1, f2⟩ := hfx x hx
      obtain ⟨_, _, _, _, f3, _, _⟩ := f1
      refine ⟨⟨by omega, by omega⟩, fun e => f2 ?_⟩
      rw [← hv, e]
      rfl
    split at h
    · split at h
      · cases h
      · rename_i hpl
        split at h
        · cases h
        · split at h
          · injection h with h
            exact plain (by simpa using hpl) h.symm
          · cases h
    · split at h
      · rename_i hodd
        split at h
        · cases h
        · rename_i hmk
          injection h with h
          obtain ⟨u, h1, h2, h3, _⟩ := encP_parts hSc (by omega)
          have henc : ∀ b ∈ encP p, Lw b ∧ b ≠ 46 := by
            intro b hb
            rw [h1] at hb
            rcases List.mem_append.1 hb with hb | hb
            · split at hb
              · rcases List.mem_append.1 hb with hb | hb
                · obtain ⟨c, c1, c2, c3⟩ := basics_mem hSc hb
                  obtain ⟨f1, f2⟩ := hfx c c1
                  obtain ⟨_, _, _, _, f3, _, _⟩ := f1
                  refine ⟨⟨by omega, by omega⟩, fun e => f2 ?_⟩
                  rw [← c3, e]
                  rfl
                · rw [List.mem_singleton] at hb; subst hb; decide
              · simp at hb
            · have := LF_ne (h2 b hb)
              exact ⟨⟨this.2.2.1, this.2.2.2⟩, this.2.1⟩
          have hbl : (basics p).length ≤ p.length := by rw [basics_length]; exact List.countP_le_length
          have hel : (encP p).length ≤ 21 * p.length + 1 := by
            rw [h1, List.length_append]
            split
            · simp; omega
            · simp; omega
          have hdl : t.data.toList = [120, 110, 45, 45] ++ encP p := by
            rw [← h, ByteArray.data_append, Array.toList_append]
            simp [strOf, aceB]
          have hst : t = strOf ([120, 110, 45, 45] ++ encP p) := by
            apply ba_ext
            rw [hdl]
            simp [strOf]
          have hall : ∀ b ∈ t.data.toList, Lw b ∧ b ≠ 46 := by
            intro b hb
            rw [hdl] at hb
            rcases List.mem_append.1 hb with hb | hb
            · simp only [List.mem_cons, List.not_mem_nil, or_false] at hb
              rcases hb with rfl | rfl | rfl | rfl <;> decide
            · exact henc b hb
          have hrb := rb_asc t (fun b hb => (hall b hb).1.1)
          have hmem : ∀ x ∈ asc t, 0 ≤ x ∧ x < 128 := fun x hx => by
            unfold asc at hx
            obtain ⟨b, hb, rfl⟩ := List.mem_map.1 hx
            have := (hall b hb).1.1
            omega
          have hsz : t.size = 4 + (encP p).length := by rw [hst, strOf_size]; simp; omega
          refine ⟨hall, ?_, by omega⟩
          have hpre : preB t aceB = true := by
            unfold preB
            rw [Bool.and_eq_true, decide_eq_true_eq, decide_eq_true_eq]
            have e4 : aceB.size = 4 := rfl
            refine ⟨by omega, ba_ext ?_⟩
            rw [ByteArray.data_extract, Array.toList_extract, List.extract_eq_take_drop, hdl, e4]
            rfl
          have hext : t.extract 4 t.size = strOf (encP p) := by
            have := strOf_ext [120, 110, 45, 45] (encP p)
            rw [← hst] at this
            exact this
          have hfx' : ∀ x ∈ p, Fx x := fun x hx => (hfx x hx).1
          have hmay : mayP p = true := by
            unfold mayP
            rw [hodd, fx_okAll hfx', fx_mapAll hfx', hc]
            simp only [Bool.true_and, Bool.and_true, decide_true, Bool.not_eq_true', decide_eq_false_iff_not]
            exact hmk
          have e1 : (asc t).any (fun c => !decide (ScP c)) = false := by
            rw [List.any_eq_false]
            intro x hx
            have := hmem x hx
            rw [decide_eq_true (by omega : ScP x)]
            decide
          have e2 : (asc t).any (fun c => decide (128 ≤ c)) = false := by
            rw [List.any_eq_false]
            intro x hx
            have := hmem x hx
            simp; omega
          unfold oneP
          rw [hrb, e1, e2, hext, puny_round hSc (by omega)]
          simp only [Bool.false_eq_true, if_false, hpre, if_true, hmay]
      · rename_i hpl
        injection h with h
        exact plain (by simpa using hpl) h.symm
theorem asc_app (a b : ByteArray) : asc (a ++ b) = asc a ++ asc b := by
  unfold asc
  rw [ByteArray.data_append, Array.toList_append, List.map_append]
theorem asc_join : ∀ ss : List ByteArray, ss ≠ [] → (∀ t ∈ ss, ∀ b ∈ t.data.toList, b ≠ 46) → splitP 46 (asc (joinP dotB ss)) = ss.map asc
  | [], h, _ => absurd rfl h
  | [t], _, h => by
    refine splitP_nodot _ (fun x hx => ?_)
    unfold joinP asc at hx
    obtain ⟨b, hb, rfl⟩ := List.mem_map.1 hx
    intro e
    exact h t (by simp) b hb (UInt8.toNat_inj.1 (by
      have : (46 : UInt8).toNat = 46 := rfl
      omega))
  | t :: u :: r, _, h => by
    have hj : joinP dotB (t :: u :: r) = t ++ dotB ++ joinP dotB (u :: r) := joinP_app [t] (u :: r) (by simp) (by simp)
    have hd : asc dotB = [46] := rfl
    rw [hj, asc_app, asc_app, hd, splitP_cut (fun x hx => ?_), asc_join (u :: r) (by simp) (fun t' ht' => h t' (by simp [ht']))]
    · rfl
    · unfold asc at hx
      obtain ⟨b, hb, rfl⟩ := List.mem_map.1 hx
      intro e
      exact h t (by simp) b hb (UInt8.toNat_inj.1 (by
        have : (46 : UInt8).toNat = 46 := rfl
        omega))
theorem partsS_of : ∀ ss : List ByteArray, (∀ t ∈ ss, oneP (asc t) = some t) → partsS (ss.map asc) = some ss
  | [], _ => rfl
  | t :: ss, h => by
    rw [List.map_cons, partsS, h t (by simp), partsS_of ss (fun u hu => h u (by simp [hu]))]
    rfl
theorem join_Lw : ∀ ss : List ByteArray, (∀ t ∈ ss, ∀ b ∈ t.data.toList, Lw b) → ∀ b ∈ (joinP dotB ss).data.toList, Lw b
  | [], _ => by simp [joinP]
  | [t], h => h t (by simp)
  | t :: u :: r, h => by
    have hj : joinP dotB (t :: u :: r) = t ++ dotB ++ joinP dotB (u :: r) := joinP_app [t] (u :: r) (by simp) (by simp)
    rw [hj, ByteArray.data_append, ByteArray.data_append, Array.toList_append, Array.toList_append]
    intro b hb
    rcases List.mem_append.1 hb with hb | hb
    · rcases List.mem_append.1 hb with hb | hb
      · exact h t (by simp) b hb
      · have : b = 46 := by simpa [dotB] using hb
        subst this
        decide
    · exact join_Lw (u :: r) (fun t' ht' => h t' (by simp [ht'])) b hb
theorem joinP_size2 (K : Nat) (ss : List ByteArray) (h : ∀ s ∈ ss, s.size ≤ K) : (joinP dotB ss).size ≤ (K + 1) * ss.length := by
  induction ss with
  | nil => exact Nat.zero_le _
  | cons t r ih =>
    cases r with
    | nil =>
      have := h t (by simp)
      show t.size ≤ _
      simp; omega
    | cons u r =>
      have hj : joinP dotB (t :: u :: r) = t ++ dotB ++ joinP dotB (u :: r) := joinP_app [t] (u :: r) (by simp) (by simp)
      have h1 := h t (by simp)
      have h2 := ih (fun s hs => h s (by simp [hs]))
      have e1 : dotB.size = 1 := rfl
      rw [hj, ByteArray.size_append, ByteArray.size_append, e1]
      rw [List.length_cons (a := t), Nat.mul_add, Nat.mul_one]
      omega
/-- THE LAW. -/
theorem all_once {l : List Int} (hl : ∀ c ∈ l, -2147483648 ≤ c ∧ c ≤ 2147483647) (hn : (foldP l).length ≤ 120) {s : ByteArray} (h : allP l = .ok s) :
    (∀ b ∈ s.data.toList, Lw b) ∧ s.size ≤ 400000 ∧ allP (asc s) = .ok s ∧ foldP (asc s) = asc s ∧ okAll (asc s) = true ∧ ∀ q ∈ splitP 46 (asc s), q.length ≤ 16000 ∧ ∀ t, oneP q = some t → t.size ≤ 500000 := by
  have hne : s ≠ ⟨#[]⟩ := by
    unfold allP at h
    split at h
    · cases h
    · split at h
      · cases h
      · split at h
        · cases h
        · injection h with h
          rename_i hh
          rw [← h]; exact hh
  obtain ⟨hok, ss, h2, rfl⟩ := allP_ok h
  have hfx := foldP_fx hl
  have hcomp : compR (foldP l) = foldP l := comp_comp (mapAll l)
  have hsp := splitP_len 46 (foldP l)
  obtain ⟨g1, g2⟩ := partsS_props _ _ h2
  have hall : ∀ t ∈ ss, (∀ b ∈ t.data.toList, Lw b ∧ b ≠ 46) ∧ oneP (asc t) = some t ∧ t.size ≤ 2525 := by
    intro t ht
    obtain ⟨p, hp, ho⟩ := g2 t ht
    have hpl := (hsp.2 p hp).1
    obtain ⟨a1, a2, a3⟩ := one_once ho (fun x hx => ⟨hfx x ((hsp.2 p hp).2 x hx), splitP_mem _ p hp x hx⟩) (splitP_comp _ hcomp p hp) (by omega)
    exact ⟨a1, a2, by omega⟩
  have hlw := join_Lw ss (fun t ht b hb => ((hall t ht).1 b hb).1)
  have hsz := joinP_size2 2525 ss (fun t ht => (hall t ht).2.2)
  have hss : ss.length ≤ 121 := by omega
  have hsz2 : 2526 * ss.length ≤ 2526 * 121 := Nat.mul_le_mul_left _ hss
  have hafx : ∀ x ∈ asc (joinP dotB ss), Fx x := fun x hx => by
    unfold asc at hx
    obtain ⟨b, hb, rfl⟩ := List.mem_map.1 hx
    exact lw_fx (hlw b hb)
  have hfold : foldP (asc (joinP dotB ss)) = asc (joinP dotB ss) := by
    unfold foldP
    rw [fx_mapAll hafx]
    unfold compR
    rw [comp_low (fun x hx => by
      unfold asc at hx
      obtain ⟨b, hb, rfl⟩ := List.mem_map.1 hx
      have := (hlw b hb).1
      omega)]
    rfl
  have hsplit := asc_join ss (partsS_ne h2) (fun t ht b hb => ((hall t ht).1 b hb).2)
  refine ⟨hlw, by omega, ?_, hfold, fx_okAll hafx, ?_⟩
  · unfold allP
    rw [fx_okAll hafx, hfold, hsplit, partsS_of ss (fun t ht => (hall t ht).2.1)]
    simp only [Bool.true_eq_false, if_false]
    rw [if_neg hne]
  · rw [hsplit]
    intro q hq
    obtain ⟨t, ht, rfl⟩ := List.mem_map.1 hq
    obtain ⟨_, b2, b3⟩ := hall t ht
    refine ⟨by rw [asc_length]; omega, fun u hu => ?_⟩
    rw [b2] at hu
    injection hu with hu
    rw [← hu]; omega
end Go.Proofs.Ythnabbidlmihbaa
