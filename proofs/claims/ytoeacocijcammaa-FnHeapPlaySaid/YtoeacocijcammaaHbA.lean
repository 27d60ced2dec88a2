/- Values of heaps: how slowly they can climb, in plain numbers. -/
namespace Go.Proofs.Ytoeacocijcammaa.Climb
theorem xor_lt {j a b : Nat} (ha : a < 2 ^ j) (hb : b < 2 ^ j) : a ^^^ b < 2 ^ j := Nat.xor_lt_two_pow ha hb
theorem xle (a b : Nat) : a ^^^ b ≤ a + b := by
  by_cases h : a = 0
  · subst h; simp
  · have ih := xle (a / 2) (b / 2)
    have h1 : (a ^^^ b) / 2 = a / 2 ^^^ b / 2 := Nat.xor_div_two
    have h2 : (a ^^^ b) % 2 ≤ a % 2 + b % 2 := by
      have e : (a ^^^ b) % 2 = (a % 2) ^^^ (b % 2) := Nat.xor_mod_two_pow (n := 1)
      rw [e]
      rcases Nat.mod_two_eq_zero_or_one a with h3 | h3 <;> rcases Nat.mod_two_eq_zero_or_one b with h4 | h4 <;> rw [h3, h4] <;> decide
    omega
termination_by a
theorem split (j x : Nat) (h1 : 2 ^ j ≤ x) (h2 : x < 2 ^ (j + 1)) : ∃ y, y < 2 ^ j ∧ x = 2 ^ j + y := ⟨x - 2 ^ j, by rw [Nat.pow_succ] at h2; omega, by omega⟩
theorem xor_div (a b j : Nat) : (a ^^^ b) / 2 ^ j = (a / 2 ^ j) ^^^ (b / 2 ^ j) := by
  have := Nat.shiftRight_xor_distrib (a := a) (b := b) (i := j)
  simpa [Nat.shiftRight_eq_div_pow] using this
theorem xor_one (j p q : Nat) (hp : p < 2 ^ j) (hq : q < 2 ^ j) : (2 ^ j + p) ^^^ q = 2 ^ j + (p ^^^ q) := by
  have h1 := xor_div (2 ^ j + p) q j
  have h2 : ((2 ^ j + p) ^^^ q) % 2 ^ j = ((2 ^ j + p) % 2 ^ j) ^^^ (q % 2 ^ j) := Nat.xor_mod_two_pow
  have hpos : 0 < 2 ^ j := Nat.two_pow_pos j
  rw [Nat.add_div_left _ hpos, Nat.div_eq_of_lt hp, Nat.div_eq_of_lt hq] at h1
  rw [Nat.add_mod_left, Nat.mod_eq_of_lt hp, Nat.mod_eq_of_lt hq] at h2
  have h3 := Nat.div_add_mod ((2 ^ j + p) ^^^ q) (2 ^ j)
  rw [h1, h2] at h3
  simp at h3
  omega
theorem xor_both (j p q : Nat) (hp : p < 2 ^ j) (hq : q < 2 ^ j) : (2 ^ j + p) ^^^ (2 ^ j + q) < 2 ^ j := by
  have h1 := xor_div (2 ^ j + p) (2 ^ j + q) j
  have hpos : 0 < 2 ^ j := Nat.two_pow_pos j
  rw [Nat.add_div_left _ hpos, Nat.add_div_left _ hpos, Nat.div_eq_of_lt hp, Nat.div_eq_of_lt hq] at h1
  have h2 := Nat.div_add_mod ((2 ^ j + p) ^^^ (2 ^ j + q)) (2 ^ j)
  have h3 := Nat.mod_lt ((2 ^ j + p) ^^^ (2 ^ j + q)) hpos
  rw [h1, Nat.xor_self, Nat.mul_zero] at h2
  omega
variable {V : Nat → Nat} (hlow : ∀ b, V b ≤ b) (hat : ∀ n t, t < V n → ∃ a b, a + b < n ∧ t = V a ^^^ V b)
include hlow hat
/-- Below the first heap with a value of 2^(j+1) or more: a value of 2^j + y wants a heap of N + y. -/
theorem climb (j N M : Nat) (hN : ∀ m, m < N → V m < 2 ^ j) (hM : ∀ m, m < M → V m < 2 ^ (j + 1)) :
    ∀ m, m ≤ M → ∀ y, y ≤ 2 ^ j → 2 ^ j + y ≤ V m → N + y ≤ m := by
  intro m
  induction m using Nat.strongRecOn with
  | _ m ih =>
    intro hm y hy hv
    rcases y with _ | y
    · rcases Nat.lt_or_ge m N with h | h
      · have := hN m h; omega
      · omega
    · obtain ⟨a, b, hab, ht⟩ := hat m (2 ^ j + y) (by omega)
      have key : ∀ a b, a + b < m → 2 ^ j + y = V a ^^^ V b → 2 ^ j ≤ V a → V b < 2 ^ j → N + (y + 1) ≤ m := by
        intro a b hab ht ha hb
        obtain ⟨p, hp, ep⟩ := split j (V a) ha (hM a (by omega))
        rw [ep, xor_one j p _ hp hb] at ht
        have h1 := xle p (V b)
        have h2 := ih a (by omega) (by omega) p (by omega) (by omega)
        have h3 := hlow b
        omega
      rcases Nat.lt_or_ge (V a) (2 ^ j) with ha | ha
      · rcases Nat.lt_or_ge (V b) (2 ^ j) with hb | hb
        · have := xor_lt ha hb; omega
        · exact key b a (by omega) (by rw [Nat.xor_comm]; exact ht) hb ha
      · rcases Nat.lt_or_ge (V b) (2 ^ j) with hb | hb
        · exact key a b hab ht ha hb
        · obtain ⟨p, hp, ep⟩ := split j (V a) ha (hM a (by omega))
          obtain ⟨q, hq, eq⟩ := split j (V b) hb (hM b (by omega))
          have := xor_both j p q hp hq
          rw [ep, eq] at ht
          omega
theorem step (j N : Nat) (hN : ∀ m, m < N → V m < 2 ^ j) : ∀ m, m < N + 2 ^ j → V m < 2 ^ (j + 1) := by
  intro m
  induction m using Nat.strongRecOn with
  | _ m ih =>
    intro hm
    rcases Nat.lt_or_ge (V m) (2 ^ (j + 1)) with h | h
    · exact h
    · have := climb hlow hat j N m hN (fun k hk => ih k hk (by omega)) m (Nat.le_refl _) (2 ^ j) (Nat.le_refl _) (by rw [Nat.pow_succ] at h; omega)
      omega
/-- Values below 64 to 108, or below 128 to 172: then below 256 to 300. -/
theorem all (h : (∀ m, m < 109 → V m < 64) ∨ (∀ m, m < 173 → V m < 128)) : ∀ m, m ≤ 300 → V m < 256 := by
  have h7 : ∀ m, m < 173 → V m < 2 ^ 7 := by
    rcases h with h | h
    · exact step hlow hat 6 109 (fun m hm => h m hm)
    · exact fun m hm => h m hm
  intro m hm
  exact step hlow hat 7 173 h7 m (by omega)
end Go.Proofs.Ytoeacocijcammaa.Climb
