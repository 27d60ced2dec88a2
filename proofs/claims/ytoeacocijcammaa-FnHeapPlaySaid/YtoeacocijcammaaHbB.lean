/- Values of heaps: each value of a heap to 300 is a nimber, whatever the code. -/
import Derived.Test.YtoeacocijcammaaHvE
import Derived.Test.YtoeacocijcammaaHbA
import Derived.Test.YtoeacocijcammaaLanR
namespace Go.Proofs.Ytoeacocijcammaa
theorem optsTo_mem {xs : List Int} {v : List Nat} {h t : Nat} : ∀ {k : Nat}, t ∈ optsTo xs v h k ↔ ∃ i, i < k ∧ t ∈ optK v (xs.getD i 0).toNat (h - (i + 1))
  | 0 => by simp [optsTo]
  | k + 1 => by
    rw [optsTo, List.mem_append, optsTo_mem (k := k)]
    constructor
    · rintro (⟨i, hi, h⟩ | h)
      · exact ⟨i, by omega, h⟩
      · exact ⟨k, by omega, h⟩
    · rintro ⟨i, hi, h⟩
      rcases Nat.lt_or_ge i k with h1 | h1
      · exact .inl ⟨i, h1, h⟩
      · obtain rfl : i = k := by omega
        exact .inr h
theorem tb0 (d : Nat) : d.testBit 0 = true ↔ d % 2 = 1 := by rw [Nat.testBit_eq_decide_div_mod_eq]; simp
theorem tb1 (d : Nat) : d.testBit 1 = true ↔ d / 2 % 2 = 1 := by rw [Nat.testBit_eq_decide_div_mod_eq]; simp
theorem tb2 (d : Nat) : d.testBit 2 = true ↔ d / 4 % 2 = 1 := by rw [Nat.testBit_eq_decide_div_mod_eq]; simp
/-- The bits of a code. -/
def cBit (xs : List Int) (i : Nat) : Bool := (xs.getD (i / 3) 0).toNat.testBit (i % 3)
theorem cBit_at (xs : List Int) (k b : Nat) (hb : b < 3) : cBit xs (3 * k + b) = (xs.getD k 0).toNat.testBit b := by
  unfold cBit
  rw [show (3 * k + b) / 3 = k by omega, show (3 * k + b) % 3 = b by omega]
theorem opts_code {xs : List Int} (hg : goodC xs = true) {n : Nat} (t : Nat) : t ∈ opts xs (vals xs n) n ↔ Lan.Opt (hV xs) (fun k b => cBit xs (3 * k + b)) n t := by
  have hlen : xs.length ≤ 6 := (goodC_iff.1 hg).2.1
  unfold opts
  rw [optsTo_mem]
  simp only [Lan.Opt, cBit_at xs _ 0 (by omega), cBit_at xs _ 1 (by omega), cBit_at xs _ 2 (by omega)]
  have key : ∀ k, k < n → (t ∈ optK (vals xs n) (xs.getD k 0).toNat (n - (k + 1)) ↔
      (((xs.getD k 0).toNat.testBit 0 = true ∧ n = k + 1 ∧ t = 0) ∨ ((xs.getD k 0).toNat.testBit 1 = true ∧ k + 1 < n ∧ t = hV xs (n - (k + 1))) ∨
        ((xs.getD k 0).toNat.testBit 2 = true ∧ ∃ j, j < (n - (k + 1)) / 2 ∧ t = hV xs (j + 1) ^^^ hV xs (n - (k + 1) - (j + 1))))) := by
    intro k hk
    generalize (xs.getD k 0).toNat = d
    rw [optK, List.mem_append, List.mem_append, or_assoc, tb0, tb1, tb2]
    refine or_congr ?_ (or_congr ?_ ?_)
    · unfold opt1
      split
      · rename_i h; simp only [List.mem_singleton]
        exact ⟨fun e => ⟨h.1, by omega, e⟩, fun e => e.2.2⟩
      · rename_i h
        refine ⟨fun e => by simp at e, fun e => absurd ⟨e.1, by omega⟩ h⟩
    · unfold opt2
      split
      · rename_i h; simp only [List.mem_singleton]
        rw [hV_get xs (by omega)]
        exact ⟨fun e => ⟨h.1, by omega, e⟩, fun e => e.2.2⟩
      · rename_i h
        refine ⟨fun e => by simp at e, fun e => absurd ⟨e.1, by omega⟩ h⟩
    · unfold opt4
      split
      · rename_i h
        simp only [splits, List.mem_map, List.mem_range]
        constructor
        · rintro ⟨j, hj, rfl⟩
          exact ⟨h, j, hj, by rw [hV_get xs (by omega), hV_get xs (by omega)]⟩
        · rintro ⟨_, j, hj, rfl⟩
          exact ⟨j, hj, by rw [hV_get xs (by omega), hV_get xs (by omega)]⟩
      · rename_i h
        exact ⟨fun e => by simp at e, fun e => absurd e.1 h⟩
  constructor
  · rintro ⟨k, hk, h⟩
    exact ⟨k, by omega, by omega, (key k (by omega)).1 h⟩
  · rintro ⟨k, _, hkn, h⟩
    refine ⟨k, ?_, (key k hkn).2 h⟩
    rcases Nat.lt_or_ge k xs.length with h1 | h1
    · omega
    · have h0 : (xs.getD k 0).toNat = 0 := by rw [List.getD_eq_getElem?_getD, List.getElem?_eq_none h1]; rfl
      rw [h0] at h
      simp at h
theorem hV_zero (xs : List Int) : hV xs 0 = 0 := by
  have : hV xs 0 ≤ 0 := mexN_le fun x hx => by simp [opts, optsTo] at hx
  omega
theorem code_of {xs : List Int} (hg : goodC xs = true) : Lan.Code (hV xs) (fun k b => cBit xs (3 * k + b)) where
  zero := hV_zero xs
  all n _ t ht := (opts_code hg t).1 (mexN_all _ t ht)
  not n _ h := mexN_not _ ((opts_code hg _).2 h)
theorem hV_le (xs : List Int) (j : Nat) : hV xs j ≤ j := mexN_le (opts_low (vals_low xs j))
theorem bnd : Bnd := by
  intro xs hg j hj
  have hc := code_of hg
  have hlow := hV_le xs
  have hat : ∀ n t, t < hV xs n → ∃ a b, a + b < n ∧ t = hV xs a ^^^ hV xs b := by
    intro n t ht
    obtain ⟨k, _, hk, h⟩ := hc.all n (by have := hlow n; omega) t ht
    rcases h with ⟨_, h1, rfl⟩ | ⟨_, h1, rfl⟩ | ⟨_, i, h1, rfl⟩
    · exact ⟨0, 0, by omega, by simp⟩
    · exact ⟨n - (k + 1), 0, by omega, by rw [hc.zero]; simp⟩
    · exact ⟨i + 1, n - (k + 1) - (i + 1), by omega, rfl⟩
  have hs := Lan.slow hc
  have : ∀ m, m ≤ 300 → hV xs m < 256 := Climb.all hlow hat (by
    rcases hs with h | h | h
    · exact .inl (Climb.step hlow hat 5 77 h)
    · exact .inl h
    · exact .inr h)
  have := this j hj
  omega
open Go.RowKit
end Go.Proofs.Ytoeacocijcammaa
