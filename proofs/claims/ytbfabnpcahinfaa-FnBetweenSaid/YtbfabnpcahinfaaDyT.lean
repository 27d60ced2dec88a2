/- The plain law of the simplest number: it lies between, and is born earlier than any other one there. -/
import Derived.Test.YtbfabnpcahinfaaDySP
namespace Go.Proofs.Ytbfabnpcahinfaa

theorem gd_even {v r : Int} {k : Nat} (h : gd v r = true) (hr : r.toNat = k + 1) : v % 2 ≠ 0 := by
  have h1 := gd_iff.1 h
  rcases h1.2.2.2.2 with h0 | h0
  · omega
  · intro e
    apply h0
    have := Int.tmod_eq_zero_of_dvd (Int.dvd_of_emod_eq_zero e)
    exact this
/-- A number's scaled top, by its pow. -/
theorem sc_val {v r : Int} {j : Nat} (hr : r.toNat = j) : sc 16 v r = v * 2 ^ (16 - j) := by unfold sc; rw [hr]
theorem pow_split {a b : Nat} (h : a ≤ b) : (2 : Int) ^ b = 2 ^ a * 2 ^ (b - a) := by
  rw [← Int.pow_add]; congr 1; omega
/-- Where no multiple of 2^(f+1) lies between, a number between has a pow of 16 - f or more. -/
theorem pow_ge {A B v r : Int} {f : Nat} (hf : f < 16) (hg : gd v r = true) (h1 : A < sc 16 v r) (h2 : sc 16 v r < B)
    (hno : ∀ m : Int, A < m * 2 ^ (f + 1) → ¬ m * 2 ^ (f + 1) < B) : 16 - f ≤ r.toNat := by
  rcases Nat.lt_or_ge r.toNat (16 - f) with h | h
  · have e : sc 16 v r = (v * 2 ^ (16 - r.toNat - (f + 1))) * 2 ^ (f + 1) := by
      rw [sc_val rfl, pow_split (a := f + 1) (b := 16 - r.toNat) (by omega), Int.mul_assoc, Int.mul_comm (2 ^ (f + 1))]
    rw [e] at h1 h2
    exact absurd h2 (hno _ h1)
  · exact h
theorem next_mul (A U m : Int) (hU : 0 < U) (h : A < m * U) : (A / U + 1) * U ≤ m * U := by
  have h1 : A / U < m := Int.ediv_lt_of_lt_mul hU h
  exact Int.mul_le_mul_of_nonneg_right (by omega) (Int.le_of_lt hU)
theorem next_gt (A U : Int) (hU : 0 < U) : A < (A / U + 1) * U := by
  have h1 := Int.emod_add_mul_ediv A U
  have h2 := Int.emod_lt_of_pos A hU
  rw [Int.add_mul, Int.mul_comm (A / U)]
  omega
/-- The floor of a number that is not negative. -/
theorem floor_sc {v r : Int} (hv : 0 ≤ v) (hr : 0 ≤ r) (hr2 : r ≤ 16) : sc 16 v r / 65536 = v / 2 ^ r.toNat := by
  obtain ⟨j, hj⟩ : ∃ j : Nat, r.toNat = j := ⟨_, rfl⟩
  rw [sc_val hj, hj, show (65536 : Int) = 2 ^ j * 2 ^ (16 - j) from by rw [← Int.pow_add, show j + (16 - j) = 16 by omega]; rfl]
  exact Int.mul_ediv_mul_of_pos_left v (2 ^ j) (pow_pos (16 - j))
theorem born_pos {v r : Int} (hv : 0 ≤ v) (hr : 0 ≤ r) (hr2 : r ≤ 16) : bornI v r = if r = 0 then sc 16 v r / 65536 else sc 16 v r / 65536 + r + 1 := by
  rw [floor_sc hv hr hr2]
  unfold bornI
  have h1 : ¬ v < 0 := by omega
  rw [if_neg h1]
  split
  · rename_i h
    subst h
    simp
  · rfl
/-- What is told of the number that is found, between 0 and B. -/
theorem simplest_pos {A B : Int} (hA : 0 ≤ A) : ∀ (f : Nat) (x z : Int), f ≤ 17 → (f = 17 ∨ ∀ m : Int, A < m * 2 ^ f → ¬ m * 2 ^ f < B) → btF A B f = (x, z, true) →
    gd x z = true ∧ 0 ≤ x ∧ A < sc 16 x z ∧ sc 16 x z < B ∧ ∀ v r : Int, gd v r = true → A < sc 16 v r → sc 16 v r < B → (v = x ∧ r = z) ∨ bornI x z < bornI v r
  | 0, x, z, _, _, h => by
    unfold btF at h
    injection h with _ h
    injection h with _ h
    cases h
  | f + 1, x, z, hf, hno, h => by
    have hU := pow_pos f
    by_cases hc : (A / 2 ^ f + 1) * 2 ^ f < B
    · rw [btF_hit rfl hc] at h
      have hgt := next_gt A (2 ^ f) hU
      have hk0 : 0 ≤ A / 2 ^ f + 1 := by have := Int.ediv_nonneg hA (Int.le_of_lt hU); omega
      unfold lowV at h
      split at h
      · rename_i hg
        injection h with e1 e2
        injection e2 with e2 _
        have hval := red_val (A / 2 ^ f + 1) (16 - f)
        have hle := red_le (A / 2 ^ f + 1) (16 - f)
        have hx0 : 0 ≤ (red (A / 2 ^ f + 1) (16 - f)).1 := (red_bd (16 - f) _ hk0).1
        generalize red (A / 2 ^ f + 1) (16 - f) = R at *
        obtain ⟨a, b⟩ := R
        simp only at *
        subst e1 e2
        have hX : sc 16 a b = (A / 2 ^ f + 1) * 2 ^ f := by
          rw [sc_val (j := b) (by omega), ← hval, Int.mul_assoc, ← Int.pow_add]
          congr 2
          omega
        have hr := gd_rng hg
        rw [hX]
        refine ⟨hg, hx0, hgt, hc, fun v r hgv h1 h2 => ?_⟩
        have hrv := gd_rng hgv
        have hv0 : 0 ≤ v := by
          have : 0 < sc 16 v r := by omega
          have := sc_pos.1 this
          omega
        by_cases hf16 : f = 16
        · -- a whole number
          subst hf16
          have hb : b = 0 := by omega
          subst hb
          have e65 : (2 : Int) ^ 16 = 65536 := by decide
          rw [e65] at hX hgt hc
          rw [born_pos hx0 (by omega) (by omega), if_pos (by omega), hX, born_pos hv0 hrv.2.2.1 hrv.2.2.2]
          have hfl : A / 65536 ≤ sc 16 v r / 65536 := Int.ediv_le_ediv (by decide) (by omega)
          have hXd : (A / 65536 + 1) * 65536 / 65536 = A / 65536 + 1 := Int.mul_ediv_cancel _ (by decide)
          rw [hXd]
          by_cases hr0 : r = 0
          · rw [if_pos hr0]
            subst hr0
            have hs : sc 16 v 0 = v * 65536 := by rw [sc_val (j := 0) rfl, e65]
            rw [hs] at h1 h2 hfl ⊢
            rw [Int.mul_ediv_cancel _ (by decide)] at hfl ⊢
            have := next_mul A 65536 v (by decide) h1
            by_cases he : A / 65536 + 1 = v
            · left
              have h3 : sc 16 v 0 = sc 16 a ((0 : Nat) : Int) := by rw [hs, hX, he]
              have := sc_inj hgv hg h3
              exact this
            · right; omega
          · rw [if_neg hr0]
            right; omega
        · have hf16 : f < 16 := by omega
          have hno' : ∀ m : Int, A < m * 2 ^ (f + 1) → ¬ m * 2 ^ (f + 1) < B := by
            rcases hno with h0 | h0
            · omega
            · exact h0
          have hpb := pow_ge hf16 hg (by rw [hX]; exact hgt) (by rw [hX]; exact hc) hno'
          have hpr := pow_ge hf16 hgv h1 h2 hno'
          have hb : b = 16 - f := by omega
          -- floors are alike: no whole number between
          have hwhole : ∀ m : Int, A < m * 65536 → ¬ m * 65536 < B := by
            intro m hm hm2
            have e : m * 65536 = (m * 2 ^ (15 - f)) * 2 ^ (f + 1) := by
              rw [Int.mul_assoc, ← Int.pow_add, show 15 - f + (f + 1) = 16 by omega]; rfl
            rw [e] at hm hm2
            exact hno' _ hm hm2
          have hfl : ∀ Y : Int, A < Y → Y < B → Y / 65536 = A / 65536 := by
            intro Y hY hY2
            have h3 : A / 65536 ≤ Y / 65536 := Int.ediv_le_ediv (by decide) (by omega)
            have h4 := next_gt A 65536 (by decide)
            have h5 := hwhole _ h4
            omega
          rw [born_pos hx0 (by omega) (by omega), born_pos hv0 hrv.2.2.1 hrv.2.2.2, hX, hfl _ hgt hc, hfl _ h1 h2, if_neg (by omega), if_neg (by omega)]
          by_cases hrr : r.toNat = 16 - f
          · left
            have hs : sc 16 v r = v * 2 ^ f := by rw [sc_val hrr, show 16 - (16 - f) = f by omega]
            rw [hs] at h1 h2
            have h6 := next_mul A (2 ^ f) v hU h1
            have hv2 : v % 2 ≠ 0 := gd_even (k := 15 - f) hgv (by omega)
            have hx2 : a % 2 ≠ 0 := gd_even (k := 15 - f) hg (by omega)
            have hak : A / 2 ^ f + 1 = a := by
              have h7 : a * 2 ^ f = (A / 2 ^ f + 1) * 2 ^ f := by rw [← hX, sc_val (j := b) (by omega), hb, show 16 - (16 - f) = f by omega]
              exact (Int.eq_of_mul_eq_mul_right (Int.ne_of_gt hU) h7).symm
            rw [hak] at h6
            have hav : a ≤ v := Int.le_of_mul_le_mul_right h6 hU
            by_cases he : v = a
            · exact ⟨he, by omega⟩
            · -- a + 1 is even and lies between
              exfalso
              have ha1 : a + 1 ≤ v := by omega
              obtain ⟨m, hm⟩ : ∃ m, a + 1 = m * 2 := ⟨(a + 1) / 2, by omega⟩
              have e : (a + 1) * 2 ^ f = m * 2 ^ (f + 1) := by rw [hm, Int.pow_succ, Int.mul_assoc, Int.mul_comm 2]
              have h8 : (a + 1) * 2 ^ f ≤ v * 2 ^ f := Int.mul_le_mul_of_nonneg_right ha1 (Int.le_of_lt hU)
              have h9 : A < (a + 1) * 2 ^ f := by
                rw [hak] at hgt
                have : a * 2 ^ f ≤ (a + 1) * 2 ^ f := Int.mul_le_mul_of_nonneg_right (by omega) (Int.le_of_lt hU)
                omega
              rw [e] at h8 h9
              exact hno' m h9 (by omega)
          · right; omega
      · injection h with _ h
        injection h with _ h
        cases h
    · rw [btF_miss rfl hc] at h
      refine simplest_pos hA f x z (by omega) (.inr fun m hm hm2 => ?_) h
      have := next_mul A (2 ^ f) m hU hm
      omega
theorem born_neg (v r : Int) : bornI (-v) r = bornI v r := by
  unfold bornI
  by_cases h : v = 0
  · subst h; rfl
  · by_cases h1 : v < 0
    · have h2 : ¬ -v < 0 := by omega
      simp only [h1, h2, if_true, if_false]
    · have h2 : -v < 0 := by omega
      simp only [h1, h2, if_true, if_false, Int.neg_neg]
theorem born_zero {v r : Int} (hg : gd v r = true) (h : v ≠ 0) : 0 < bornI v r := by
  have hr := gd_rng hg
  unfold bornI
  have hp := pow_pos r.toNat
  split
  · split <;> omega
  · split
    · have := Int.ediv_nonneg (show 0 ≤ -v by omega) (Int.le_of_lt hp); omega
    · have := Int.ediv_nonneg (show 0 ≤ v by omega) (Int.le_of_lt hp); omega
/-- The law. -/
theorem simplest {t p u q x z : Int} (h : simV t p u q = (x, z, true)) : gd t p = true ∧ gd u q = true ∧ gd x z = true ∧ sc 16 t p < sc 16 x z ∧ sc 16 x z < sc 16 u q ∧
    ∀ v r : Int, gd v r = true → sc 16 t p < sc 16 v r → sc 16 v r < sc 16 u q → (v = x ∧ r = z) ∨ bornI x z < bornI v r := by
  unfold simV at h
  split at h
  · rename_i hc
    simp only [Bool.and_eq_true, decide_eq_true_eq] at hc
    refine ⟨hc.1.1, hc.1.2, ?_⟩
    split at h
    · rename_i ht
      split at h
      · rename_i hu
        injection h with e1 e2
        injection e2 with e2 _
        subst e1 e2
        have hz : sc 16 0 0 = 0 := by decide
        rw [hz]
        refine ⟨by decide, sc_lt.2 ht, sc_pos.2 hu, fun v r hg _ _ => ?_⟩
        by_cases hv : v = 0
        · left
          subst hv
          have := gd_iff.1 hg
          refine ⟨rfl, ?_⟩
          rcases this.2.2.2.2 with h0 | h0
          · exact h0
          · exact absurd rfl h0
        · right
          have := born_zero hg hv
          have h0 : bornI 0 0 = 0 := by decide
          omega
      · rename_i hu
        unfold ngV at h
        injection h with e1 e2
        injection e2 with e2 e3
        have hb : btF (sc 16 (-u) q) (sc 16 (-t) p) 17 = (-x, z, true) := by
          generalize btF (sc 16 (-u) q) (sc 16 (-t) p) 17 = m at *
          obtain ⟨m1, m2, m3⟩ := m
          simp only at *
          subst e2 e3
          rw [show m1 = -x by omega]
        have hA : 0 ≤ sc 16 (-u) q := by
          rw [sc_neg]
          have : ¬ 0 < sc 16 u q := fun h => hu (sc_pos.1 h)
          omega
        obtain ⟨g1, g2, g3, g4, g5⟩ := simplest_pos hA 17 (-x) z (Nat.le_refl _) (.inl rfl) hb
        rw [sc_neg, sc_neg] at g3 g4
        have hgx : gd x z = true := by have := gd_neg g1; rwa [Int.neg_neg] at this
        refine ⟨hgx, by omega, by omega, fun v r hg h1 h2 => ?_⟩
        have := g5 (-v) r (gd_neg hg) (by rw [sc_neg, sc_neg]; omega) (by rw [sc_neg, sc_neg]; omega)
        rw [born_neg, born_neg] at this
        rcases this with ⟨a, b⟩ | h3
        · exact .inl ⟨by omega, b⟩
        · exact .inr h3
    · rename_i ht
      have hA : 0 ≤ sc 16 t p := by
        have : ¬ sc 16 t p < 0 := fun h => ht (sc_lt.1 h)
        omega
      obtain ⟨g1, _, g3, g4, g5⟩ := simplest_pos hA 17 x z (Nat.le_refl _) (.inl rfl) h
      exact ⟨g1, g3, g4, g5⟩
  · injection h with _ e
    injection e with _ e
    cases e
theorem simplest_no {t p u q x z : Int} (h : simV t p u q = (x, z, false)) : x = 0 ∧ z = 0 := by
  have hb : ∀ (f : Nat) (A B x z : Int), btF A B f = (x, z, false) → x = 0 ∧ z = 0 := by
    intro f
    induction f with
    | zero => intro A B x z h; unfold btF at h; injection h with a b; injection b with b _; exact ⟨a.symm, b.symm⟩
    | succ f ih =>
      intro A B x z h
      unfold btF at h
      split at h
      · unfold lowV at h
        split at h
        · injection h with _ b
          injection b with _ b
          cases b
        · injection h with a b; injection b with b _; exact ⟨a.symm, b.symm⟩
      · exact ih A B x z h
  unfold simV at h
  split at h
  · split at h
    · split at h
      · injection h with _ b
        injection b with _ b
        cases b
      · unfold ngV at h
        injection h with a b
        injection b with b d
        have := hb 17 (sc 16 (-u) q) (sc 16 (-t) p) (-x) z (by
          generalize btF (sc 16 (-u) q) (sc 16 (-t) p) 17 = m at *
          obtain ⟨m1, m2, m3⟩ := m
          simp only at *
          subst b d
          rw [show m1 = -x by omega])
        omega
    · exact hb 17 _ _ x z h
  · injection h with a b; injection b with b _; exact ⟨a.symm, b.symm⟩
end Go.Proofs.Ytbfabnpcahinfaa
