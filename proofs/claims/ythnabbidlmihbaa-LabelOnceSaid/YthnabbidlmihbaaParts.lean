/- label.parts's iterator: the walk, for whatever loop body. -/
import Derived.Test.YthnabbidlmihbaaPartsL
namespace Go.Proofs.Ythnabbidlmihbaa
open Go.RowKit Go.Gp

/-- The rounds of a loop over a list: each may be the last one. -/
def Runs {σ X : Type} (R : σ → X → σ → Bool → Prop) : List X → σ → σ → Prop
  | [], s, t => s = t
  | p :: ps, s, t => ∃ s' b, R s p s' b ∧ (if b = true then Runs R ps s' t else s' = t)

set_option maxRecDepth 100000 in
theorem parts1_spec {σ : Type} (lp b : Nat) (J : σ → List Res) (pre : List (List Int) → σ → Prop) (R : σ → List Int → σ → Bool → Prop) (f : List Int) (A : Option Addr) (c : Nat) (hn : f.length ≤ 1000000000) (hc : f.length ≤ c) (w0 : World) (m0 : List Res) (hA : Rd w0 m0 A (runes f)) (s0 : σ) (h0 : pre (splitP 46 f) s0)
    (hpre : ∀ s p ps s', pre (p :: ps) s → R s p s' true → pre ps s')
    (hY : ∀ (s : σ) (p : List Int) (ps : List (List Int)) (B : Option Addr) (c' : Nat) (mm : List Res), pre (p :: ps) s → p.length ≤ c' → Rd w0 (mm ++ m0) B (runes p) → YCt Try.prog lp [.slice B p.length c'] w0 (J s) (mm ++ m0) (fun x : σ × Bool => R s p x.1 x.2) (fun x => .bool x.2) (fun x => J x.1)) :
    Ct (α := σ) Try.prog 29 [.func (.yield lp) #[] #[], .pointer (some ⟨b, 0, none⟩)] w0 (.blk b [.slice A f.length c] 22 :: J s0) m0 (fun t => Runs R (splitP 46 f) s0 t) (fun _ => .tuple #[]) J := by
  refine Ct.of Try.func29 rfl (by kernel_rfl) rfl ?_
  (refine c_bl ?_; rotate_left)
  refine WC.loop (α := Option Addr × Nat × List Int × σ) (fun x => [(0, .func (.yield lp) #[] #[]), (1, .pointer (some ⟨b, 0, none⟩))]) (fun x => .blk b [.slice x.1 x.2.2.1.length x.2.1] 22 :: J x.2.2.2)
    (fun x => pre (splitP 46 x.2.2.1) x.2.2.2 ∧ x.2.2.1.length ≤ x.2.1 ∧ x.2.2.1.length ≤ 1000000000 ∧ Rd w0 m0 x.1 (runes x.2.2.1) ∧ ∀ t, Runs R (splitP 46 x.2.2.1) x.2.2.2 t → Runs R (splitP 46 f) s0 t)
    (fun x => x.2.2.1.length) (A, c, f, s0) ⟨h0, hc, hn, hA, fun _ h => h⟩ ⟨rfl, rfl, trivial⟩ Mem.keep ?_
  rintro ⟨B, d, l, s⟩ ⟨hp, hd, hl, hB, hruns⟩
  dsimp only at hp hd hl hB hruns ⊢
  have hbd := idxP_bd 46 l
  (refine c_bl <| c_sq fun k29 h29 => c_rg <| r_lb 0 Try.underlying22 rfl rfl rfl rfl rfl ?_; rotate_left)
  refine WX.pure rfl rfl (index_spec B d l 46 (by omega) _ _ (hB.app _)) rfl rfl ?_
  by_cases hi : idxP 46 l < 0
  · have hs := splitP_no 46 l hi
    rw [hs] at hp hruns
    (refine r_as rfl rfl <| r_nx h29 <| c_sq fun k35 h35 => c_sq fun k37 h37 => c_rg <| r_mv rfl rfl <| r_ltT rfl rfl rfl (by omega) <| r_nx h37 <| c_cT rfl <| c_sq fun k39 h39 => c_rg <| r_mv rfl rfl <| r_lb 0 Try.underlying22 rfl rfl rfl rfl rfl ?_; rotate_left)
    refine WX.mem Mem.rot ?_
    refine WX.yield (m1 := J s) (m2 := [.blk b [.slice B l.length d] 22]) rfl rfl rfl (hY s l [] B d [.blk b [.slice B l.length d] 22] hp hd (hB.app _)) rfl rfl ?_
    rintro ⟨s', bb⟩ hR
    dsimp only at hR ⊢
    (refine r_nx h39 <| c_rt <| WE.then_r <| WE.blk_r <| WE.then_r <| WE.blk_r ?_; rotate_left)
    exact WE.ret0 s' rfl rfl rfl (hruns s' ⟨s', bb, hR, by cases bb <;> rfl⟩) (fun w hw => Mem.tail (Mem.unrot w hw))
  · obtain ⟨hk, hs⟩ := splitP_at 46 l (by omega)
    rw [hs] at hp hruns
    generalize hke : idxP 46 l = k at hi hk hs hp hruns hbd ⊢
    have hlt : (l.take k.toNat).length = k.toNat - 0 := by simp; omega
    have hB1 := hB.sub 0 (k.toNat - 0) d (by simpa using hd)
    (refine r_as rfl rfl <| r_nx h29 <| c_sq fun k43 h43 => c_sq fun k45 h45 => c_rg <| r_mv rfl rfl <| r_ltF rfl rfl rfl (by omega) <| r_nx h45 <| c_cF rfl <| c_sk <| WE.then_n h43 <| c_sq fun k47 h47 => c_sq fun k49 h49 => c_rg <| r_mv rfl rfl <| r_lb 0 Try.underlying22 rfl rfl rfl rfl rfl <| r_mv rfl rfl ?_; rotate_left)
    refine r_sto elem1 size1 rfl rfl (by omega) (by omega) rfl ?_
    rw [sliced_sub, ← hlt]
    refine WX.mem Mem.rot ?_
    refine WX.yield (m1 := J s) (m2 := [.blk b [.slice B l.length d] 22]) rfl rfl rfl (hY s (l.take k.toNat) _ (subA B 0 d) (d - 0) [.blk b [.slice B l.length d] 22] hp (by omega) (Rd.app (by rw [runes, List.map_take]; simpa using hB1) _)) rfl rfl ?_
    rintro ⟨s', bb⟩ hR
    dsimp only at hR ⊢
    cases bb
    · (refine r_no rfl rfl rfl <| r_nx h49 <| c_cT rfl <| c_rt <| WE.then_r <| WE.blk_r <| WE.then_r <| WE.blk_r ?_; rotate_left)
      exact WE.ret0 s' rfl rfl rfl (hruns s' ⟨s', false, hR, rfl⟩) (fun w hw => Mem.tail (Mem.unrot w hw))
    · refine WX.mem Mem.unrot ?_
      (refine r_no rfl rfl rfl <| r_nx h49 <| c_cF rfl <| c_sk <| WE.then_n h47 <| c_rg <| r_lb 0 Try.underlying22 rfl rfl rfl rfl rfl <| r_mv rfl rfl <| r_ad rfl rfl rfl (wadd64 (by omega)) ?_; rotate_left)
      refine r_sf elem1 size1 rfl rfl (by omega) (by omega) rfl ?_
      rw [sliced_sub]
      have e1 : (k + 1).toNat = k.toNat + 1 := by omega
      have e2 : (l.drop (k.toNat + 1)).length = l.length - (k.toNat + 1) := by simp
      rw [e1, ← e2]
      (refine r_st 0 (by kernel_rfl) rfl rfl rfl rfl rfl rfl rfl <| r_nl <| WE.blk_n ?_; rotate_left)
      exact WE.back (subA B (k.toNat + 1) d, d - (k.toNat + 1), l.drop (k.toNat + 1), s') ⟨hpre _ _ _ _ hp hR, by dsimp only; omega, by dsimp only; omega, by
        have := hB.sub (k.toNat + 1) (l.length - (k.toNat + 1)) d (by simpa using hd)
        rw [List.take_of_length_le (by simp)] at this
        dsimp only
        rw [runes, List.map_drop]
        exact this, fun t ht => hruns t ⟨s', true, hR, ht⟩⟩ (by dsimp only; omega) ⟨rfl, rfl, trivial⟩ Mem.keep
end Go.Proofs.Ythnabbidlmihbaa
