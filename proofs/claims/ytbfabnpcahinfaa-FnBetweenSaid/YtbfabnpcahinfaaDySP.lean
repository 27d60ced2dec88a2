/- Plain laws of dyadic numbers: sums in any order, half twice, the negation, equal numbers. -/
import Derived.Test.YtbfabnpcahinfaaDyR
namespace Go.Proofs.Ytbfabnpcahinfaa
theorem addV_comm (t p u q : Int) : addV t p u q = addV u q t p := by
  unfold addV
  rw [Bool.and_comm, Int.add_comm]
theorem red_good {t p : Int} (h : gd t p = true) : red t p.toNat = (t, p.toNat) := by
  have h1 := gd_iff.1 h
  rcases h1.2.2.2.2 with h0 | h0
  · subst h0; exact red_zero t
  · obtain ⟨k, hk⟩ : ∃ k, p.toNat = k := ⟨_, rfl⟩
    rw [hk]
    rcases k with _ | k
    · exact red_zero t
    · exact red_odd h0
theorem red_sc {t p : Int} (h : gd t p = true) : red (sc 16 t p) 16 = (t, p.toNat) := by
  have h1 := gd_rng h
  have h2 := red_pow t p.toNat (16 - p.toNat)
  rw [show p.toNat + (16 - p.toNat) = 16 by omega, red_good h] at h2
  exact h2
theorem sc_inj {t p u q : Int} (h : gd t p = true) (h2 : gd u q = true) (he : sc 16 t p = sc 16 u q) : t = u ∧ p = q := by
  have h3 := red_sc h
  rw [he, red_sc h2] at h3
  have a := gd_rng h
  have b := gd_rng h2
  injection h3 with e1 e2
  omega
theorem half_twice {t p h k : Int} (hh : halfV t p = (h, k, true)) : addV h k h k = (t, p, true) := by
  unfold halfV at hh
  split at hh
  · rename_i hg
    unfold lowV at hh
    split at hh
    · rename_i hg2
      injection hh with e1 e2
      injection e2 with e2 _
      have hv := red_val t (p.toNat + 1)
      have hl := red_le t (p.toNat + 1)
      have hr := gd_rng hg
      have hr2 := gd_rng hg2
      generalize red t (p.toNat + 1) = R at *
      obtain ⟨a, b⟩ := R
      simp only at *
      subst e1 e2
      have e : sc 16 a b + sc 16 a b = sc 16 t p := by
        unfold sc
        rw [← hv, Int.mul_assoc, ← Int.pow_add, show (b : Int).toNat = b by omega]
        have e3 : p.toNat + 1 - b + (16 - p.toNat) = (16 - b) + 1 := by omega
        rw [e3, Int.pow_succ, ← Int.mul_assoc]
        omega
      have hs := red_sc hg
      unfold addV
      rw [hg2, Bool.and_self, if_pos rfl, e]
      unfold lowV
      rw [hs]
      simp only
      rw [show ((p.toNat : Nat) : Int) = p by omega, if_pos hg]
    · injection hh with _ e2
      injection e2 with _ e3
      cases e3
  · injection hh with _ e2
    injection e2 with _ e3
    cases e3
theorem neg_sum {t p n q : Int} (h : negV t p = (n, q, true)) : addV t p n q = (0, 0, true) := by
  unfold negV at h
  split at h
  · rename_i hg
    injection h with e1 e2
    injection e2 with e2 _
    subst e1 e2
    have hg2 : gd (-t) p = true := by
      rw [gd_iff] at hg ⊢
      refine ⟨by omega, by omega, hg.2.2.1, hg.2.2.2.1, ?_⟩
      rcases hg.2.2.2.2 with h0 | h0
      · exact .inl h0
      · right; rw [Int.neg_tmod]; omega
    unfold addV
    rw [hg, hg2, Bool.and_self, if_pos rfl, sc_neg, Int.add_right_neg]
    decide
  · injection h with _ e2
    injection e2 with _ e3
    cases e3
theorem cmpI_anti (x y : Int) : cmpI x y = -(cmpI y x) := by
  unfold cmpI
  repeat' split
  all_goals omega
theorem cmpI_zero {x y : Int} : cmpI x y = 0 ↔ x = y := by
  unfold cmpI
  repeat' split
  all_goals omega
theorem cmpI_rng (x y : Int) : cmpI x y = -1 ∨ cmpI x y = 0 ∨ cmpI x y = 1 := by
  unfold cmpI
  repeat' split
  all_goals omega
theorem cmpV_anti {t p u q c : Int} (h : cmpV t p u q = (c, true)) : cmpV u q t p = (-c, true) := by
  unfold cmpV at h ⊢
  rw [Bool.and_comm]
  split at h
  · rename_i hg
    injection h with e1
    rw [if_pos hg, ← e1, cmpI_anti (sc 16 u q)]
  · injection h with _ e2
    cases e2
theorem cmpV_zero {t p u q c : Int} (h : cmpV t p u q = (c, true)) : c = 0 ↔ t = u ∧ p = q := by
  unfold cmpV at h
  split at h
  · rename_i hg
    rw [Bool.and_eq_true] at hg
    injection h with e1
    rw [← e1, cmpI_zero]
    exact ⟨fun e => sc_inj hg.1 hg.2 e, fun ⟨a, b⟩ => by rw [a, b]⟩
  · injection h with _ e2
    cases e2
end Go.Proofs.Ytbfabnpcahinfaa
