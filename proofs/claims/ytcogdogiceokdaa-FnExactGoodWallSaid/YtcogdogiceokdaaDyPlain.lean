/- Plain facts on dyadic numbers top over 2 to the pow (no program here). -/
namespace Go.Proofs.Ytcogdogiceokdaa

/-- In lowest terms: the top, the pow. -/
def red : Int → Nat → Int × Nat
  | t, 0 => (t, 0)
  | t, p + 1 => if t.tmod 2 = 0 then red (t.tdiv 2) p else (t, p + 1)
theorem red_zero (t : Int) : red t 0 = (t, 0) := by unfold red; rfl
theorem red_even {t : Int} {p : Nat} (h : t.tmod 2 = 0) : red t (p + 1) = red (t.tdiv 2) p := by conv => lhs; unfold red
                                                                                                 rw [if_pos h]
theorem red_odd {t : Int} {p : Nat} (h : t.tmod 2 ≠ 0) : red t (p + 1) = (t, p + 1) := by unfold red; rw [if_neg h]
theorem red_two (t : Int) (p : Nat) : red (2 * t) (p + 1) = red t p := by
  rw [red_even (by rw [Int.mul_tmod_right]), Int.mul_tdiv_cancel_left _ (by decide)]
theorem red_pow (t : Int) (p : Nat) : ∀ n : Nat, red (t * 2 ^ n) (p + n) = red t p
  | 0 => by simp
  | n + 1 => by
    rw [show t * 2 ^ (n + 1) = 2 * (t * 2 ^ n) from by rw [Int.pow_succ]; ac_rfl, ← Nat.add_assoc, red_two, red_pow t p n]
theorem red_le : ∀ (t : Int) (p : Nat), (red t p).2 ≤ p
  | t, 0 => by rw [red_zero]; omega
  | t, p + 1 => by
    by_cases h : t.tmod 2 = 0
    · rw [red_even h]; have := red_le (t.tdiv 2) p; omega
    · rw [red_odd h]; exact Nat.le_refl _
/-- The value is kept: top·2^(n - pow) with n the pow ahead. -/
theorem red_val : ∀ (t : Int) (p : Nat), (red t p).1 * 2 ^ (p - (red t p).2) = t
  | t, 0 => by rw [red_zero]; simp
  | t, p + 1 => by
    by_cases h : t.tmod 2 = 0
    · have ih := red_val (t.tdiv 2) p
      have hl := red_le (t.tdiv 2) p
      rw [red_even h, show p + 1 - (red (t.tdiv 2) p).2 = (p - (red (t.tdiv 2) p).2) + 1 from by omega, Int.pow_succ, ← Int.mul_assoc, ih]
      have := Int.tmod_add_mul_tdiv t 2
      rw [h] at this
      omega
    · rw [red_odd h]; simp
theorem red_form : ∀ (t : Int) (p : Nat), (red t p).2 = 0 ∨ (red t p).1.tmod 2 ≠ 0
  | t, 0 => by rw [red_zero]; exact .inl rfl
  | t, p + 1 => by
    by_cases h : t.tmod 2 = 0
    · rw [red_even h]; exact red_form _ _
    · rw [red_odd h]; exact .inr h

/-- The top of a number over 2 to the n. -/
def sc (n : Nat) (t : Int) (p : Int) : Int := t * 2 ^ (n - p.toNat)
theorem pow_pos (n : Nat) : (0 : Int) < 2 ^ n := Int.pow_pos (by decide)
theorem sc_bd {n : Nat} {t p : Int} (h1 : -1000001 ≤ t) (h2 : t ≤ 1000001) : -(1000001 * 2 ^ n) ≤ sc n t p ∧ sc n t p ≤ 1000001 * 2 ^ n := by
  unfold sc
  have hp : (2 : Int) ^ (n - p.toNat) ≤ 2 ^ n := by
    have : (2 : Nat) ^ (n - p.toNat) ≤ 2 ^ n := Nat.pow_le_pow_right (by omega) (by omega)
    exact_mod_cast this
  have h0 := pow_pos (n - p.toNat)
  generalize (2 : Int) ^ (n - p.toNat) = a at *
  generalize (2 : Int) ^ n = b at *
  constructor
  · have : -1000001 * a ≤ t * a := Int.mul_le_mul_of_nonneg_right h1 (by omega)
    omega
  · have : t * a ≤ 1000001 * a := Int.mul_le_mul_of_nonneg_right h2 (by omega)
    omega
theorem sc_up {n m : Nat} {t p : Int} (hp : p.toNat ≤ n) (hm : n ≤ m) : sc m t p = sc n t p * 2 ^ (m - n) := by
  unfold sc
  rw [Int.mul_assoc, ← Int.pow_add]
  congr 2
  omega
theorem sc_neg (n : Nat) (t p : Int) : sc n (-t) p = - sc n t p := by unfold sc; rw [Int.neg_mul]
theorem sc_lt {n : Nat} {t p : Int} : sc n t p < 0 ↔ t < 0 := by
  unfold sc
  have h0 := pow_pos (n - p.toNat)
  constructor
  · intro h
    rcases Int.lt_or_le t 0 with h1 | h1
    · exact h1
    · have := Int.mul_nonneg h1 (Int.le_of_lt h0); omega
  · exact fun h => Int.mul_neg_of_neg_of_pos h h0
theorem sc_pos {n : Nat} {t p : Int} : 0 < sc n t p ↔ 0 < t := by
  have := sc_lt (n := n) (t := -t) (p := p)
  rw [sc_neg] at this
  omega
theorem sc_cmp {n m : Nat} {t p u q : Int} (hp : p.toNat ≤ n) (hq : q.toNat ≤ n) (hm : n ≤ m) : sc m t p < sc m u q ↔ sc n t p < sc n u q := by
  rw [sc_up hp hm, sc_up hq hm]
  have h0 := pow_pos (m - n)
  constructor
  · exact fun h => Int.lt_of_mul_lt_mul_right h (Int.le_of_lt h0)
  · exact fun h => Int.mul_lt_mul_of_pos_right h h0
end Go.Proofs.Ytcogdogiceokdaa
