/- The contracts of the two nim products. -/
import Derived.Test.YtoaknbeekflnaaaNimA
namespace Go.Proofs.Ytoaknbeekflnaaa
open Go.RowKit

theorem xor_nat {x y : Int} (hx : 0 ≤ x) (hx' : x < 4294967296) (hy : 0 ≤ y) (hy' : y < 4294967296) : bits .xor .i64 x y = ((x.toNat ^^^ y.toNat : Nat) : Int) := by
  obtain ⟨a, rfl⟩ := Int.eq_ofNat_of_zero_le hx
  obtain ⟨b, rfl⟩ := Int.eq_ofNat_of_zero_le hy
  rw [i64_xor_nat a b (by omega) (by omega)]; rfl
theorem xor_rng {x y : Int} (n : Nat) (hn : n ≤ 32) (hx : 0 ≤ x) (hx' : x < 2 ^ n) (hy : 0 ≤ y) (hy' : y < 2 ^ n) : 0 ≤ bits .xor .i64 x y ∧ bits .xor .i64 x y < 2 ^ n := by
  obtain ⟨a, rfl⟩ := Int.eq_ofNat_of_zero_le hx
  obtain ⟨b, rfl⟩ := Int.eq_ofNat_of_zero_le hy
  have hp : (2 : Nat) ^ n ≤ 2 ^ 32 := Nat.pow_le_pow_right (by omega) hn
  have ha : a < 2 ^ n := by exact_mod_cast hx'
  have hb : b < 2 ^ n := by exact_mod_cast hy'
  rw [i64_xor_nat a b (by omega) (by omega)]
  have := Nat.xor_lt_two_pow ha hb
  exact ⟨by omega, by exact_mod_cast this⟩

/-- The contract of impl.nimProduct at one level. -/
def NP (k : Nat) (h : Int) : Prop := ∀ (a b h' : Int) (w : World), h' = h → 0 ≤ a → a < (2 ^ 2 ^ k : Nat) → 0 ≤ b → b < (2 ^ 2 ^ k : Nat) →
    Calls Try.prog 45 #[.int .i64 a, .int .i64 b, .int .i64 h'] w fun e w' => e = .returned (.int .i64 (Nim.M k a.toNat b.toNat)) ∧ Q w w'

set_option maxHeartbeats 400000 in
theorem np_small {k : Nat} (a b h : Int) (w : World) (ha : 0 ≤ a) (hb : 0 ≤ b) (ha' : a < 256) (hb' : b < 256) (hs : a < 2 ∨ b < 2) :
    Calls Try.prog 45 #[.int .i64 a, .int .i64 b, .int .i64 h] w fun e w' => e = .returned (.int .i64 (Nim.M k a.toNat b.toNat)) ∧ Q w w' := by
  have fin : Hid (((Nim.M k a.toNat b.toNat : Nat) : Int) = a * b) := Lib.hid (by
    rw [Nim.M_small (by omega), Int.natCast_mul, Int.toNat_of_nonneg ha, Int.toNat_of_nonneg hb])
  have hab : IntKind.i64.wrap (a * b) = a * b := by
    have h1 : a * b ≤ 255 * 255 := Int.mul_le_mul (by omega) (by omega) hb (by omega)
    have h2 : 0 ≤ a * b := Int.mul_nonneg ha hb
    rw [IntKind.wrap_i64]
    generalize a * b = z at *
    omega
  rw [IntKind.wrap_i64] at hab
  have Hab := Lib.hid hab
  clear hab
  by_cases h2 : a < 2
  all_goals
    go_enter Try.func45, Try.ntmps45
    go_wp2_with fail
    go_ret
    exact ⟨ret_int (by rw [fin.out]; first | rfl | exact Hab.out | (unfold wrap64; exact Hab.out)), Q.refl _⟩

theorem and_mask {x : Int} (n : Nat) (hn : n ≤ 32) (hx : 0 ≤ x) (hx' : x < 256) : bits .and .i64 x (2 ^ n - 1) = x % 2 ^ n :=
  bits_mask .i64 32 (by decide) (fun n h1 h2 => IntWalk.i64_in _ (by have : (2 : Int) ^ 32 = 4294967296 := by decide
                                                                     omega)) n hn x hx (by have : (2 : Int) ^ 32 = 4294967296 := by decide
                                                                                           omega)

theorem or_xor {n x y : Nat} (hy : y < 2 ^ n) : x * 2 ^ n ||| y = x * 2 ^ n ^^^ y := by
  apply Nat.eq_of_testBit_eq
  intro i
  simp only [Nat.testBit_or, Nat.testBit_xor, Nat.testBit_mul_two_pow]
  by_cases h : n ≤ i
  · have : y.testBit i = false := Nat.testBit_lt_two_pow (Nat.lt_of_lt_of_le hy (Nat.pow_le_pow_right (by omega) h))
    simp [this]
  · simp [h]

theorem np_fin (k P : Nat) (hP : P = 2 ^ 2 ^ k) (hk : P ≤ 16) (a b : Int) (ha : 0 ≤ a) (hb : 0 ≤ b) (ha' : a.toNat < 2 ^ 2 ^ (k + 1)) (hb' : b.toNat < 2 ^ 2 ^ (k + 1))
    {hi lo bo : Nat} {s : Int} (lhi : hi < P) (llo : lo < P) (lbo : bo < P) (Hhi : Nim.M k (a / P).toNat (b / P).toNat = hi) (Hlo : Nim.M k (a % P).toNat (b % P).toNat = lo)
    (Hbo : Nim.M k (bits .xor .i64 (a / P) (a % P)).toNat (bits .xor .i64 (b / P) (b % P)).toNat = bo) (Hs : bits .xor .i64 bo lo = s) :
    bits .or .i64 (s * P) (bits .xor .i64 lo (Nim.M k hi (2 ^ (2 ^ k - 1)) : Nat)) = (Nim.M (k + 1) a.toNat b.toNat : Nat) := by
  obtain ⟨a, rfl⟩ := Int.eq_ofNat_of_zero_le ha
  obtain ⟨b, rfl⟩ := Int.eq_ofNat_of_zero_le hb
  simp only [Int.toNat_natCast, ← Int.natCast_ediv, ← Int.natCast_emod] at *
  have da := Nim.top_lt ha'
  have db := Nim.top_lt hb'
  have ma := Nim.low_lt k a
  have mb := Nim.low_lt k b
  have lm := Nim.M_lt k hi (2 ^ (2 ^ k - 1)) (hP ▸ lhi) (Nim.half_lt k)
  have lx : lo ^^^ Nim.M k hi (2 ^ (2 ^ k - 1)) < 2 ^ 2 ^ k := Nim.xlt (hP ▸ llo) lm
  have lx' : bo ^^^ lo < 2 ^ 2 ^ k := Nim.xlt (hP ▸ lbo) (hP ▸ llo)
  rw [← hP] at da db ma mb lm lx lx'
  rw [i64_xor_nat _ _ (by omega) (by omega), i64_xor_nat _ _ (by omega) (by omega), Int.toNat_natCast, Int.toNat_natCast] at Hbo
  rw [i64_xor_nat _ _ (by omega) (by omega)] at Hs
  rw [i64_xor_nat _ _ (by omega) (by omega), ← Hs, ← Int.natCast_mul]
  have h1 : (bo ^^^ lo) * P ≤ 15 * 16 := Nat.mul_le_mul (by omega) hk
  rw [i64_or_nat _ _ (by omega) (by omega)]
  congr 1
  conv => rhs; unfold Nim.M
  rw [← hP, Hhi, Hlo, Hbo]
  conv => lhs; rw [hP]
  rw [or_xor (by rw [← hP]; exact lx), ← hP]

set_option maxHeartbeats 800000 in
theorem np_big1 (ih : NP 0 0) (a b : Int) (w : World) (ha : 2 ≤ a) (ha' : a < 4) (hb : 2 ≤ b) (hb' : b < 4) :
    Calls Try.prog 45 #[.int .i64 a, .int .i64 b, .int .i64 1] w fun e w' => e = .returned (.int .i64 (Nim.M 1 a.toNat b.toNat)) ∧ Q w w' := by
  have e1 : bits .and .i64 a 1 = a % 2 := and_mask 1 (by omega) (by omega) (by omega)
  have e2 : bits .and .i64 b 1 = b % 2 := and_mask 1 (by omega) (by omega) (by omega)
  go_enter Try.func45, Try.ntmps45
  go_wp2_with fail
  go_quiet (fail)
  go_wp2_with fail
  clear e1 e2
  refine (ih _ _ _ _ rfl (by omega) (by simp; omega) (by omega) (by simp; omega)).mono ?_
  rintro e w1 ⟨rfl, q1⟩
  obtain ⟨hi, Hhi⟩ : ∃ x : Nat, Hid (Nim.M 0 (a / 2).toNat (b / 2).toNat = x) := ⟨_, Lib.hid rfl⟩
  have lhi : hi < 2 := by rw [← Hhi.out]; exact Nim.M_lt 0 _ _ (by simp; omega) (by simp; omega)
  rw [Hhi.out]
  go_wp2_with fail
  refine (ih _ _ _ _ rfl (by omega) (by simp; omega) (by omega) (by simp; omega)).mono ?_
  rintro e w2 ⟨rfl, q2⟩
  obtain ⟨lo, Hlo⟩ : ∃ x : Nat, Hid (Nim.M 0 (a % 2).toNat (b % 2).toNat = x) := ⟨_, Lib.hid rfl⟩
  have llo : lo < 2 := by rw [← Hlo.out]; exact Nim.M_lt 0 _ _ (by simp; omega) (by simp; omega)
  rw [Hlo.out]
  go_wp2_with fail
  have r1 := xor_rng (x := a / 2) (y := a % 2) 1 (by omega) (by omega) (by simp; omega) (by omega) (by simp; omega)
  have r2 := xor_rng (x := b / 2) (y := b % 2) 1 (by omega) (by omega) (by simp; omega) (by omega) (by simp; omega)
  refine (ih _ _ _ _ rfl r1.1 r1.2 r2.1 r2.2).mono ?_
  rintro e w3 ⟨rfl, q3⟩
  obtain ⟨bo, Hbo⟩ : ∃ x : Nat, Hid (Nim.M 0 (bits .xor .i64 (a / 2) (a % 2)).toNat (bits .xor .i64 (b / 2) (b % 2)).toNat = x) := ⟨_, Lib.hid rfl⟩
  have lbo : bo < 2 := by rw [← Hbo.out]; exact Nim.M_lt 0 _ _ (by have := r1.1; have := r1.2; simp at *; omega) (by have := r2.1; have := r2.2; simp at *; omega)
  rw [Hbo.out]
  clear r1 r2
  go_wp2_with fail
  have r3 := xor_rng (x := (bo : Int)) (y := (lo : Int)) 1 (by omega) (by omega) (by simp; omega) (by omega) (by simp; omega)
  obtain ⟨s, Hs⟩ : ∃ s : Int, Hid (bits .xor .i64 (bo : Int) (lo : Int) = s) := ⟨_, Lib.hid rfl⟩
  have es := Hs.out
  rw [es] at r3
  have r3a : 0 ≤ s := r3.1
  have r3b : s < 2 := by have := r3.2; simp at this; omega
  clear r3
  go_quiet ((go_at_call 45; exact Q.quiet (ih _ _ _ _ rfl (by omega) (by simp; omega) (by omega) (by simp))))
  go_wp2_with fail
  go_ret
  refine ⟨ret_int ?_, (((Q.drew (Q.refl w) _).trans q1).trans (q2.trans q3)).drew _⟩
  have := np_fin 0 2 rfl (by omega) a b (by omega) (by omega) (by simp; omega) (by simp; omega) lhi llo lbo Hhi.out Hlo.out Hbo.out Hs.out
  simpa using this

set_option maxHeartbeats 800000 in
theorem np_big2 (ih : NP 1 1) (a b : Int) (w : World) (ha : 2 ≤ a) (ha' : a < 16) (hb : 2 ≤ b) (hb' : b < 16) :
    Calls Try.prog 45 #[.int .i64 a, .int .i64 b, .int .i64 2] w fun e w' => e = .returned (.int .i64 (Nim.M 2 a.toNat b.toNat)) ∧ Q w w' := by
  have e1 : bits .and .i64 a 3 = a % 4 := and_mask 2 (by omega) (by omega) (by omega)
  have e2 : bits .and .i64 b 3 = b % 4 := and_mask 2 (by omega) (by omega) (by omega)
  go_enter Try.func45, Try.ntmps45
  go_wp2_with fail
  go_quiet (fail)
  go_wp2_with fail
  clear e1 e2
  refine (ih _ _ _ _ rfl (by omega) (by simp; omega) (by omega) (by simp; omega)).mono ?_
  rintro e w1 ⟨rfl, q1⟩
  obtain ⟨hi, Hhi⟩ : ∃ x : Nat, Hid (Nim.M 1 (a / 4).toNat (b / 4).toNat = x) := ⟨_, Lib.hid rfl⟩
  have lhi : hi < 4 := by rw [← Hhi.out]; exact Nim.M_lt 1 _ _ (by simp; omega) (by simp; omega)
  rw [Hhi.out]
  go_wp2_with fail
  refine (ih _ _ _ _ rfl (by omega) (by simp; omega) (by omega) (by simp; omega)).mono ?_
  rintro e w2 ⟨rfl, q2⟩
  obtain ⟨lo, Hlo⟩ : ∃ x : Nat, Hid (Nim.M 1 (a % 4).toNat (b % 4).toNat = x) := ⟨_, Lib.hid rfl⟩
  have llo : lo < 4 := by rw [← Hlo.out]; exact Nim.M_lt 1 _ _ (by simp; omega) (by simp; omega)
  rw [Hlo.out]
  go_wp2_with fail
  have r1 := xor_rng (x := a / 4) (y := a % 4) 2 (by omega) (by omega) (by simp; omega) (by omega) (by simp; omega)
  have r2 := xor_rng (x := b / 4) (y := b % 4) 2 (by omega) (by omega) (by simp; omega) (by omega) (by simp; omega)
  refine (ih _ _ _ _ rfl r1.1 r1.2 r2.1 r2.2).mono ?_
  rintro e w3 ⟨rfl, q3⟩
  obtain ⟨bo, Hbo⟩ : ∃ x : Nat, Hid (Nim.M 1 (bits .xor .i64 (a / 4) (a % 4)).toNat (bits .xor .i64 (b / 4) (b % 4)).toNat = x) := ⟨_, Lib.hid rfl⟩
  have lbo : bo < 4 := by rw [← Hbo.out]; exact Nim.M_lt 1 _ _ (by have := r1.1; have := r1.2; simp at *; omega) (by have := r2.1; have := r2.2; simp at *; omega)
  rw [Hbo.out]
  clear r1 r2
  go_wp2_with fail
  have r3 := xor_rng (x := (bo : Int)) (y := (lo : Int)) 2 (by omega) (by omega) (by simp; omega) (by omega) (by simp; omega)
  obtain ⟨s, Hs⟩ : ∃ s : Int, Hid (bits .xor .i64 (bo : Int) (lo : Int) = s) := ⟨_, Lib.hid rfl⟩
  have es := Hs.out
  rw [es] at r3
  have r3a : 0 ≤ s := r3.1
  have r3b : s < 4 := by have := r3.2; simp at this; omega
  clear r3
  go_quiet ((go_at_call 45; exact Q.quiet (ih _ _ _ _ rfl (by omega) (by simp; omega) (by omega) (by simp))))
  go_wp2_with fail
  go_ret
  refine ⟨ret_int ?_, (((Q.drew (Q.refl w) _).trans q1).trans (q2.trans q3)).drew _⟩
  have := np_fin 1 4 rfl (by omega) a b (by omega) (by omega) (by simp; omega) (by simp; omega) lhi llo lbo Hhi.out Hlo.out Hbo.out Hs.out
  simpa using this

set_option maxHeartbeats 800000 in
theorem np_big3 (ih : NP 2 2) (a b : Int) (w : World) (ha : 2 ≤ a) (ha' : a < 256) (hb : 2 ≤ b) (hb' : b < 256) :
    Calls Try.prog 45 #[.int .i64 a, .int .i64 b, .int .i64 4] w fun e w' => e = .returned (.int .i64 (Nim.M 3 a.toNat b.toNat)) ∧ Q w w' := by
  have e1 : bits .and .i64 a 15 = a % 16 := and_mask 4 (by omega) (by omega) (by omega)
  have e2 : bits .and .i64 b 15 = b % 16 := and_mask 4 (by omega) (by omega) (by omega)
  go_enter Try.func45, Try.ntmps45
  go_wp2_with fail
  go_quiet (fail)
  go_wp2_with fail
  clear e1 e2
  refine (ih _ _ _ _ rfl (by omega) (by simp; omega) (by omega) (by simp; omega)).mono ?_
  rintro e w1 ⟨rfl, q1⟩
  obtain ⟨hi, Hhi⟩ : ∃ x : Nat, Hid (Nim.M 2 (a / 16).toNat (b / 16).toNat = x) := ⟨_, Lib.hid rfl⟩
  have lhi : hi < 16 := by rw [← Hhi.out]; exact Nim.M_lt 2 _ _ (by simp; omega) (by simp; omega)
  rw [Hhi.out]
  go_wp2_with fail
  refine (ih _ _ _ _ rfl (by omega) (by simp; omega) (by omega) (by simp; omega)).mono ?_
  rintro e w2 ⟨rfl, q2⟩
  obtain ⟨lo, Hlo⟩ : ∃ x : Nat, Hid (Nim.M 2 (a % 16).toNat (b % 16).toNat = x) := ⟨_, Lib.hid rfl⟩
  have llo : lo < 16 := by rw [← Hlo.out]; exact Nim.M_lt 2 _ _ (by simp; omega) (by simp; omega)
  rw [Hlo.out]
  go_wp2_with fail
  have r1 := xor_rng (x := a / 16) (y := a % 16) 4 (by omega) (by omega) (by simp; omega) (by omega) (by simp; omega)
  have r2 := xor_rng (x := b / 16) (y := b % 16) 4 (by omega) (by omega) (by simp; omega) (by omega) (by simp; omega)
  refine (ih _ _ _ _ rfl r1.1 r1.2 r2.1 r2.2).mono ?_
  rintro e w3 ⟨rfl, q3⟩
  obtain ⟨bo, Hbo⟩ : ∃ x : Nat, Hid (Nim.M 2 (bits .xor .i64 (a / 16) (a % 16)).toNat (bits .xor .i64 (b / 16) (b % 16)).toNat = x) := ⟨_, Lib.hid rfl⟩
  have lbo : bo < 16 := by rw [← Hbo.out]; exact Nim.M_lt 2 _ _ (by have := r1.1; have := r1.2; simp at *; omega) (by have := r2.1; have := r2.2; simp at *; omega)
  rw [Hbo.out]
  clear r1 r2
  go_wp2_with fail
  have r3 := xor_rng (x := (bo : Int)) (y := (lo : Int)) 4 (by omega) (by omega) (by simp; omega) (by omega) (by simp; omega)
  obtain ⟨s, Hs⟩ : ∃ s : Int, Hid (bits .xor .i64 (bo : Int) (lo : Int) = s) := ⟨_, Lib.hid rfl⟩
  have es := Hs.out
  rw [es] at r3
  have r3a : 0 ≤ s := r3.1
  have r3b : s < 16 := by have := r3.2; simp at this; omega
  clear r3
  go_quiet ((go_at_call 45; exact Q.quiet (ih _ _ _ _ rfl (by omega) (by simp; omega) (by omega) (by simp))))
  go_wp2_with fail
  go_ret
  refine ⟨ret_int ?_, (((Q.drew (Q.refl w) _).trans q1).trans (q2.trans q3)).drew _⟩
  have := np_fin 2 16 rfl (by omega) a b (by omega) (by omega) (by simp; omega) (by simp; omega) lhi llo lbo Hhi.out Hlo.out Hbo.out Hs.out
  simpa using this

theorem np0 : NP 0 0 := fun a b h w _ ha ha' hb hb' => np_small a b h w ha hb (by simp at ha'; omega) (by simp at hb'; omega) (.inl (by simp at ha'; omega))
theorem np1 : NP 1 1 := fun a b h w e ha ha' hb hb' => by
  subst e
  simp at ha' hb'
  by_cases hs : a < 2 ∨ b < 2
  · exact np_small a b 1 w ha hb (by omega) (by omega) hs
  · exact np_big1 np0 a b w (by omega) (by omega) (by omega) (by omega)
theorem np2 : NP 2 2 := fun a b h w e ha ha' hb hb' => by
  subst e
  simp at ha' hb'
  by_cases hs : a < 2 ∨ b < 2
  · exact np_small a b 2 w ha hb (by omega) (by omega) hs
  · exact np_big2 np1 a b w (by omega) (by omega) (by omega) (by omega)
theorem np3 : NP 3 4 := fun a b h w e ha ha' hb hb' => by
  subst e
  simp at ha' hb'
  by_cases hs : a < 2 ∨ b < 2
  · exact np_small a b 4 w ha hb (by omega) (by omega) hs
  · exact np_big3 np2 a b w (by omega) (by omega) (by omega) (by omega)

/-- The contract of spec.l16Times at one level. -/
def LT (k : Nat) : Prop := ∀ (a b : Int) (w : World), 0 ≤ a → a < (2 ^ 2 ^ k : Nat) → 0 ≤ b → b < (2 ^ 2 ^ k : Nat) →
    Calls Try.prog 44 #[.int .i64 a, .int .i64 b] w fun e w' => e = .returned (.int .i64 (Nim.M k a.toNat b.toNat)) ∧ Q w w'
set_option maxHeartbeats 400000 in
theorem lt_small {k : Nat} (a b : Int) (w : World) (ha : 0 ≤ a) (hb : 0 ≤ b) (ha' : a < 256) (hb' : b < 256) (hs : a < 2 ∨ b < 2) :
    Calls Try.prog 44 #[.int .i64 a, .int .i64 b] w fun e w' => e = .returned (.int .i64 (Nim.M k a.toNat b.toNat)) ∧ Q w w' := by
  have fin : Hid (((Nim.M k a.toNat b.toNat : Nat) : Int) = a * b) := Lib.hid (by
    rw [Nim.M_small (by omega), Int.natCast_mul, Int.toNat_of_nonneg ha, Int.toNat_of_nonneg hb])
  have hab : IntKind.i64.wrap (a * b) = a * b := by
    have h1 : a * b ≤ 255 * 255 := Int.mul_le_mul (by omega) (by omega) hb (by omega)
    have h2 : 0 ≤ a * b := Int.mul_nonneg ha hb
    rw [IntKind.wrap_i64]
    generalize a * b = z at *
    omega
  rw [IntKind.wrap_i64] at hab
  have Hab := Lib.hid hab
  clear hab
  by_cases h2 : a < 2
  all_goals
    go_enter Try.func44, Try.ntmps44
    go_wp2_with fail
    go_ret
    exact ⟨ret_int (by rw [fin.out]; first | rfl | exact Hab.out | (unfold wrap64; exact Hab.out)), Q.refl _⟩
theorem lt_fin (k P : Nat) (hP : P = 2 ^ 2 ^ k) (hk : P ≤ 16) (a b : Int) (ha : 0 ≤ a) (hb : 0 ≤ b) (ha' : a.toNat < 2 ^ 2 ^ (k + 1)) (hb' : b.toNat < 2 ^ 2 ^ (k + 1))
    {hi lo bo : Nat} {s : Int} (lhi : hi < P) (llo : lo < P) (lbo : bo < P) (Hhi : Nim.M k (a / P).toNat (b / P).toNat = hi) (Hlo : Nim.M k (a % P).toNat (b % P).toNat = lo)
    (Hbo : Nim.M k (bits .xor .i64 (a / P) (a % P)).toNat (bits .xor .i64 (b / P) (b % P)).toNat = bo) (Hs : bits .xor .i64 bo lo = s) :
    bits .xor .i64 (bits .xor .i64 (s * P) lo) (Nim.M k (2 ^ (2 ^ k - 1)) hi : Nat) = (Nim.M (k + 1) a.toNat b.toNat : Nat) := by
  obtain ⟨a, rfl⟩ := Int.eq_ofNat_of_zero_le ha
  obtain ⟨b, rfl⟩ := Int.eq_ofNat_of_zero_le hb
  simp only [Int.toNat_natCast, ← Int.natCast_ediv, ← Int.natCast_emod] at *
  have da := Nim.top_lt ha'
  have db := Nim.top_lt hb'
  have ma := Nim.low_lt k a
  have mb := Nim.low_lt k b
  rw [Nim.M_comm k _ hi]
  have lm := Nim.M_lt k hi (2 ^ (2 ^ k - 1)) (hP ▸ lhi) (Nim.half_lt k)
  have lx' : bo ^^^ lo < 2 ^ 2 ^ k := Nim.xlt (hP ▸ lbo) (hP ▸ llo)
  rw [← hP] at da db ma mb lm lx'
  rw [i64_xor_nat _ _ (by omega) (by omega), i64_xor_nat _ _ (by omega) (by omega), Int.toNat_natCast, Int.toNat_natCast] at Hbo
  rw [i64_xor_nat _ _ (by omega) (by omega)] at Hs
  rw [← Hs, ← Int.natCast_mul]
  have h1 : (bo ^^^ lo) * P ≤ 15 * 16 := Nat.mul_le_mul (by omega) hk
  have h2 : (bo ^^^ lo) * P ^^^ lo < 2 ^ 8 := Nat.xor_lt_two_pow (by omega) (by omega)
  rw [i64_xor_nat _ _ (by omega) (by omega), i64_xor_nat _ _ (by omega) (by omega)]
  congr 1
  conv => rhs; unfold Nim.M
  rw [← hP, Hhi, Hlo, Hbo, Nat.xor_assoc]

set_option maxHeartbeats 800000 in
theorem lt_big1 (ih : LT 0) (a b : Int) (w : World) (ha : 2 ≤ a) (ha' : a < 4) (hb : 2 ≤ b) (hb' : b < 4) (hab : 2 ≤ a ∨ 2 ≤ b) :
    Calls Try.prog 44 #[.int .i64 a, .int .i64 b] w fun e w' => e = .returned (.int .i64 (Nim.M 1 a.toNat b.toNat)) ∧ Q w w' := by
  go_enter Try.func44, Try.ntmps44
  go_wp2_with fail
  go_loop [5] (fun p => ∃ q : Int, p = .int .i64 q ∧ (q = 2 ∨ q = 4 ∨ q = 16) ∧ q ≤ 2) (fun p => (2 - intOf p).toNat)
  case atStart => exact ⟨2, rfl, .inl rfl, by omega⟩
  case round =>
    obtain ⟨q, rfl, hq, hqP⟩ := hrel
    by_cases hlt : q < 2
    · rcases hq with rfl | rfl | rfl
      all_goals first
        | (exfalso; omega)
        | (go_wp2_with fail
           all_goals
             go_round
             case rel => exact ⟨_, rfl, by omega, by omega⟩
             case measure => simp [intOf])
    · obtain rfl : q = 2 := by omega
      clear hq hqP hlt
      go_wp2_with fail
      clear hab
      go_quiet ((go_at_call 44; exact Q.quiet (ih _ _ _ (by omega) (by simp; omega) (by omega) (by simp; omega))))
      obtain ⟨hi, Hhi⟩ : ∃ x : Nat, Hid (Nim.M 0 (a / 2).toNat (b / 2).toNat = x) := ⟨_, Lib.hid rfl⟩
      have lhi : hi < 2 := by rw [← Hhi.out]; exact Nim.M_lt 0 _ _ (by simp; omega) (by simp; omega)
      rw [Hhi.out]
      obtain ⟨w1, hw1⟩ : ∃ w1, w.drewN nq = w1 := ⟨_, rfl⟩
      have q1 : Q w w1 := hw1 ▸ (Q.refl w).drew nq
      rw [hw1]
      clear hw1
      go_wp2_with fail
      go_quiet ((go_at_call 44; exact Q.quiet (ih _ _ _ (by omega) (by simp; omega) (by omega) (by simp; omega))))
      obtain ⟨lo, Hlo⟩ : ∃ x : Nat, Hid (Nim.M 0 (a % 2).toNat (b % 2).toNat = x) := ⟨_, Lib.hid rfl⟩
      have llo : lo < 2 := by rw [← Hlo.out]; exact Nim.M_lt 0 _ _ (by simp; omega) (by simp; omega)
      rw [Hlo.out]
      obtain ⟨w2, hw2⟩ : ∃ w2, w1.drewN nq = w2 := ⟨_, rfl⟩
      have q2 : Q w1 w2 := hw2 ▸ (Q.refl w1).drew nq
      rw [hw2]
      clear hw2
      go_wp2_with fail
      have r1 := xor_rng (x := a / 2) (y := a % 2) 1 (by omega) (by omega) (by simp; omega) (by omega) (by simp; omega)
      have r2 := xor_rng (x := b / 2) (y := b % 2) 1 (by omega) (by omega) (by simp; omega) (by omega) (by simp; omega)
      go_quiet ((go_at_call 44; exact Q.quiet (ih _ _ _ r1.1 r1.2 r2.1 r2.2)))
      obtain ⟨bo, Hbo⟩ : ∃ x : Nat, Hid (Nim.M 0 (bits .xor .i64 (a / 2) (a % 2)).toNat (bits .xor .i64 (b / 2) (b % 2)).toNat = x) := ⟨_, Lib.hid rfl⟩
      have lbo : bo < 2 := by rw [← Hbo.out]; exact Nim.M_lt 0 _ _ (by have := r1.1; have := r1.2; simp at *; omega) (by have := r2.1; have := r2.2; simp at *; omega)
      rw [Hbo.out]
      clear r1 r2
      obtain ⟨w3, hw3⟩ : ∃ w3, w2.drewN nq = w3 := ⟨_, rfl⟩
      have q3 : Q w2 w3 := hw3 ▸ (Q.refl w2).drew nq
      rw [hw3]
      clear hw3
      have r3 := xor_rng (x := (bo : Int)) (y := (lo : Int)) 1 (by omega) (by omega) (by simp; omega) (by omega) (by simp; omega)
      obtain ⟨s, Hs⟩ : ∃ s : Int, Hid (bits .xor .i64 (bo : Int) (lo : Int) = s) := ⟨_, Lib.hid rfl⟩
      have es := Hs.out
      rw [es] at r3
      have r3a : 0 ≤ s := r3.1
      have r3b : s < 2 := by have := r3.2; simp at this; omega
      clear r3
      go_wp2_with fail
      refine (ih _ _ _ (by omega) (by simp) (by omega) (by simp; omega)).mono ?_
      rintro e w4 ⟨rfl, q4⟩
      go_wp2_with fail
      go_ret
      refine ⟨ret_int ?_, (q1.trans q2).trans (q3.trans q4)⟩
      have := lt_fin 0 2 rfl (by omega) a b (by omega) (by omega) (by simp; omega) (by simp; omega) lhi llo lbo Hhi.out Hlo.out Hbo.out Hs.out
      simpa using this

set_option maxHeartbeats 800000 in
theorem lt_big2 (ih : LT 1) (a b : Int) (w : World) (ha : 2 ≤ a) (ha' : a < 16) (hb : 2 ≤ b) (hb' : b < 16) (hab : 4 ≤ a ∨ 4 ≤ b) :
    Calls Try.prog 44 #[.int .i64 a, .int .i64 b] w fun e w' => e = .returned (.int .i64 (Nim.M 2 a.toNat b.toNat)) ∧ Q w w' := by
  go_enter Try.func44, Try.ntmps44
  go_wp2_with fail
  go_loop [5] (fun p => ∃ q : Int, p = .int .i64 q ∧ (q = 2 ∨ q = 4 ∨ q = 16) ∧ q ≤ 4) (fun p => (4 - intOf p).toNat)
  case atStart => exact ⟨2, rfl, .inl rfl, by omega⟩
  case round =>
    obtain ⟨q, rfl, hq, hqP⟩ := hrel
    by_cases hlt : q < 4
    · rcases hq with rfl | rfl | rfl
      all_goals first
        | (exfalso; omega)
        | (go_wp2_with fail
           all_goals
             go_round
             case rel => exact ⟨_, rfl, by omega, by omega⟩
             case measure => simp [intOf])
    · obtain rfl : q = 4 := by omega
      clear hq hqP hlt
      go_wp2_with fail
      clear hab
      go_quiet ((go_at_call 44; exact Q.quiet (ih _ _ _ (by omega) (by simp; omega) (by omega) (by simp; omega))))
      obtain ⟨hi, Hhi⟩ : ∃ x : Nat, Hid (Nim.M 1 (a / 4).toNat (b / 4).toNat = x) := ⟨_, Lib.hid rfl⟩
      have lhi : hi < 4 := by rw [← Hhi.out]; exact Nim.M_lt 1 _ _ (by simp; omega) (by simp; omega)
      rw [Hhi.out]
      obtain ⟨w1, hw1⟩ : ∃ w1, w.drewN nq = w1 := ⟨_, rfl⟩
      have q1 : Q w w1 := hw1 ▸ (Q.refl w).drew nq
      rw [hw1]
      clear hw1
      go_wp2_with fail
      go_quiet ((go_at_call 44; exact Q.quiet (ih _ _ _ (by omega) (by simp; omega) (by omega) (by simp; omega))))
      obtain ⟨lo, Hlo⟩ : ∃ x : Nat, Hid (Nim.M 1 (a % 4).toNat (b % 4).toNat = x) := ⟨_, Lib.hid rfl⟩
      have llo : lo < 4 := by rw [← Hlo.out]; exact Nim.M_lt 1 _ _ (by simp; omega) (by simp; omega)
      rw [Hlo.out]
      obtain ⟨w2, hw2⟩ : ∃ w2, w1.drewN nq = w2 := ⟨_, rfl⟩
      have q2 : Q w1 w2 := hw2 ▸ (Q.refl w1).drew nq
      rw [hw2]
      clear hw2
      go_wp2_with fail
      have r1 := xor_rng (x := a / 4) (y := a % 4) 2 (by omega) (by omega) (by simp; omega) (by omega) (by simp; omega)
      have r2 := xor_rng (x := b / 4) (y := b % 4) 2 (by omega) (by omega) (by simp; omega) (by omega) (by simp; omega)
      go_quiet ((go_at_call 44; exact Q.quiet (ih _ _ _ r1.1 r1.2 r2.1 r2.2)))
      obtain ⟨bo, Hbo⟩ : ∃ x : Nat, Hid (Nim.M 1 (bits .xor .i64 (a / 4) (a % 4)).toNat (bits .xor .i64 (b / 4) (b % 4)).toNat = x) := ⟨_, Lib.hid rfl⟩
      have lbo : bo < 4 := by rw [← Hbo.out]; exact Nim.M_lt 1 _ _ (by have := r1.1; have := r1.2; simp at *; omega) (by have := r2.1; have := r2.2; simp at *; omega)
      rw [Hbo.out]
      clear r1 r2
      obtain ⟨w3, hw3⟩ : ∃ w3, w2.drewN nq = w3 := ⟨_, rfl⟩
      have q3 : Q w2 w3 := hw3 ▸ (Q.refl w2).drew nq
      rw [hw3]
      clear hw3
      have r3 := xor_rng (x := (bo : Int)) (y := (lo : Int)) 2 (by omega) (by omega) (by simp; omega) (by omega) (by simp; omega)
      obtain ⟨s, Hs⟩ : ∃ s : Int, Hid (bits .xor .i64 (bo : Int) (lo : Int) = s) := ⟨_, Lib.hid rfl⟩
      have es := Hs.out
      rw [es] at r3
      have r3a : 0 ≤ s := r3.1
      have r3b : s < 4 := by have := r3.2; simp at this; omega
      clear r3
      go_wp2_with fail
      refine (ih _ _ _ (by omega) (by simp) (by omega) (by simp; omega)).mono ?_
      rintro e w4 ⟨rfl, q4⟩
      go_wp2_with fail
      go_ret
      refine ⟨ret_int ?_, (q1.trans q2).trans (q3.trans q4)⟩
      have := lt_fin 1 4 rfl (by omega) a b (by omega) (by omega) (by simp; omega) (by simp; omega) lhi llo lbo Hhi.out Hlo.out Hbo.out Hs.out
      simpa using this

set_option maxHeartbeats 800000 in
theorem lt_big3 (ih : LT 2) (a b : Int) (w : World) (ha : 2 ≤ a) (ha' : a < 256) (hb : 2 ≤ b) (hb' : b < 256) (hab : 16 ≤ a ∨ 16 ≤ b) :
    Calls Try.prog 44 #[.int .i64 a, .int .i64 b] w fun e w' => e = .returned (.int .i64 (Nim.M 3 a.toNat b.toNat)) ∧ Q w w' := by
  go_enter Try.func44, Try.ntmps44
  go_wp2_with fail
  go_loop [5] (fun p => ∃ q : Int, p = .int .i64 q ∧ (q = 2 ∨ q = 4 ∨ q = 16) ∧ q ≤ 16) (fun p => (16 - intOf p).toNat)
  case atStart => exact ⟨2, rfl, .inl rfl, by omega⟩
  case round =>
    obtain ⟨q, rfl, hq, hqP⟩ := hrel
    by_cases hlt : q < 16
    · rcases hq with rfl | rfl | rfl
      all_goals first
        | (exfalso; omega)
        | (go_wp2_with fail
           all_goals
             go_round
             case rel => exact ⟨_, rfl, by omega, by omega⟩
             case measure => simp [intOf])
    · obtain rfl : q = 16 := by omega
      clear hq hqP hlt
      go_wp2_with fail
      clear hab
      go_quiet ((go_at_call 44; exact Q.quiet (ih _ _ _ (by omega) (by simp; omega) (by omega) (by simp; omega))))
      obtain ⟨hi, Hhi⟩ : ∃ x : Nat, Hid (Nim.M 2 (a / 16).toNat (b / 16).toNat = x) := ⟨_, Lib.hid rfl⟩
      have lhi : hi < 16 := by rw [← Hhi.out]; exact Nim.M_lt 2 _ _ (by simp; omega) (by simp; omega)
      rw [Hhi.out]
      obtain ⟨w1, hw1⟩ : ∃ w1, w.drewN nq = w1 := ⟨_, rfl⟩
      have q1 : Q w w1 := hw1 ▸ (Q.refl w).drew nq
      rw [hw1]
      clear hw1
      go_wp2_with fail
      go_quiet ((go_at_call 44; exact Q.quiet (ih _ _ _ (by omega) (by simp; omega) (by omega) (by simp; omega))))
      obtain ⟨lo, Hlo⟩ : ∃ x : Nat, Hid (Nim.M 2 (a % 16).toNat (b % 16).toNat = x) := ⟨_, Lib.hid rfl⟩
      have llo : lo < 16 := by rw [← Hlo.out]; exact Nim.M_lt 2 _ _ (by simp; omega) (by simp; omega)
      rw [Hlo.out]
      obtain ⟨w2, hw2⟩ : ∃ w2, w1.drewN nq = w2 := ⟨_, rfl⟩
      have q2 : Q w1 w2 := hw2 ▸ (Q.refl w1).drew nq
      rw [hw2]
      clear hw2
      go_wp2_with fail
      have r1 := xor_rng (x := a / 16) (y := a % 16) 4 (by omega) (by omega) (by simp; omega) (by omega) (by simp; omega)
      have r2 := xor_rng (x := b / 16) (y := b % 16) 4 (by omega) (by omega) (by simp; omega) (by omega) (by simp; omega)
      go_quiet ((go_at_call 44; exact Q.quiet (ih _ _ _ r1.1 r1.2 r2.1 r2.2)))
      obtain ⟨bo, Hbo⟩ : ∃ x : Nat, Hid (Nim.M 2 (bits .xor .i64 (a / 16) (a % 16)).toNat (bits .xor .i64 (b / 16) (b % 16)).toNat = x) := ⟨_, Lib.hid rfl⟩
      have lbo : bo < 16 := by rw [← Hbo.out]; exact Nim.M_lt 2 _ _ (by have := r1.1; have := r1.2; simp at *; omega) (by have := r2.1; have := r2.2; simp at *; omega)
      rw [Hbo.out]
      clear r1 r2
      obtain ⟨w3, hw3⟩ : ∃ w3, w2.drewN nq = w3 := ⟨_, rfl⟩
      have q3 : Q w2 w3 := hw3 ▸ (Q.refl w2).drew nq
      rw [hw3]
      clear hw3
      have r3 := xor_rng (x := (bo : Int)) (y := (lo : Int)) 4 (by omega) (by omega) (by simp; omega) (by omega) (by simp; omega)
      obtain ⟨s, Hs⟩ : ∃ s : Int, Hid (bits .xor .i64 (bo : Int) (lo : Int) = s) := ⟨_, Lib.hid rfl⟩
      have es := Hs.out
      rw [es] at r3
      have r3a : 0 ≤ s := r3.1
      have r3b : s < 16 := by have := r3.2; simp at this; omega
      clear r3
      go_wp2_with fail
      refine (ih _ _ _ (by omega) (by simp) (by omega) (by simp; omega)).mono ?_
      rintro e w4 ⟨rfl, q4⟩
      go_wp2_with fail
      go_ret
      refine ⟨ret_int ?_, (q1.trans q2).trans (q3.trans q4)⟩
      have := lt_fin 2 16 rfl (by omega) a b (by omega) (by omega) (by simp; omega) (by simp; omega) lhi llo lbo Hhi.out Hlo.out Hbo.out Hs.out
      simpa using this

theorem lt0 : LT 0 := fun a b w ha ha' hb hb' => lt_small a b w ha hb (by simp at ha'; omega) (by simp at hb'; omega) (.inl (by simp at ha'; omega))
theorem lt_up {k : Nat} (P : Int) (hP : P = (2 ^ 2 ^ k : Nat)) (ih : LT k) (hL : (2 ^ 2 ^ (k + 1) : Nat) ≤ 256)
    (big : ∀ (a b : Int) (w : World), 2 ≤ a → a < (2 ^ 2 ^ (k + 1) : Nat) → 2 ≤ b → b < (2 ^ 2 ^ (k + 1) : Nat) → P ≤ a ∨ P ≤ b →
      Calls Try.prog 44 #[.int .i64 a, .int .i64 b] w fun e w' => e = .returned (.int .i64 (Nim.M (k + 1) a.toNat b.toNat)) ∧ Q w w') : LT (k + 1) := fun a b w ha ha' hb hb' => by
  by_cases hs : a < 2 ∨ b < 2
  · exact lt_small a b w ha hb (by omega) (by omega) hs
  · by_cases hp : P ≤ a ∨ P ≤ b
    · exact big a b w (by omega) ha' (by omega) hb' hp
    · rw [Nim.M_down (by omega) (by omega)]
      exact ih a b w ha (by omega) hb (by omega)
theorem lt1 : LT 1 := lt_up 2 rfl lt0 (by decide) fun a b w h1 h2 h3 h4 h5 => lt_big1 lt0 a b w h1 (by simp at h2; omega) h3 (by simp at h4; omega) h5
theorem lt2 : LT 2 := lt_up 4 rfl lt1 (by decide) fun a b w h1 h2 h3 h4 h5 => lt_big2 lt1 a b w h1 (by simp at h2; omega) h3 (by simp at h4; omega) h5
theorem lt3 : LT 3 := lt_up 16 rfl lt2 (by decide) fun a b w h1 h2 h3 h4 h5 => lt_big3 lt2 a b w h1 (by simp at h2; omega) h3 (by simp at h4; omega) h5

/-- The two products of nimbers. -/
theorem c_nimProduct (a b : Int) (w : World) (ha : 0 ≤ a) (ha' : a ≤ 255) (hb : 0 ≤ b) (hb' : b ≤ 255) :
    Calls Try.prog 45 #[.int .i64 a, .int .i64 b, .int .i64 4] w fun e w' => e = .returned (.int .i64 (Nim.nm a.toNat b.toNat)) ∧ Q w w' :=
  np3 a b 4 w rfl ha (by simp; omega) hb (by simp; omega)
theorem c_l16Times (a b : Int) (w : World) (ha : 0 ≤ a) (ha' : a ≤ 255) (hb : 0 ≤ b) (hb' : b ≤ 255) :
    Calls Try.prog 44 #[.int .i64 a, .int .i64 b] w fun e w' => e = .returned (.int .i64 (Nim.nm a.toNat b.toNat)) ∧ Q w w' :=
  lt3 a b w ha (by simp; omega) hb (by simp; omega)
end Go.Proofs.Ytoaknbeekflnaaa
