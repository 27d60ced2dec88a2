/- Values of heaps: the machine's runs, over all codes. -/
import Derived.Test.YtoeacocijcammaaLanC
namespace Go.Proofs.Ytoeacocijcammaa.Lan
set_option maxRecDepth 100000
theorem r0 : go pr5 [(2, false), (1, false), (4, false), (5, false)] 5 76 = 0 := by decide +kernel
theorem r1 : go pr5 [(2, false), (1, false), (4, false), (5, true)] 5 76 = 0 := by decide +kernel
theorem r2 : go pr5 [(2, false), (1, false), (4, true), (5, false)] 5 76 = 0 := by decide +kernel
theorem r3 : go pr5 [(2, false), (1, false), (4, true), (5, true), (17, false)] 5 76 = 0 := by decide +kernel
theorem r4 : go pr6 [(2, false), (1, false), (4, true), (5, true), (17, true)] 6 108 = 0 := by decide +kernel
theorem r5 : go pr5 [(2, false), (1, true), (5, false), (10, false), (4, false)] 5 76 = 0 := by decide +kernel
theorem r6 : go pr6 [(2, false), (1, true), (5, false), (10, false), (4, true)] 6 108 = 0 := by decide +kernel
theorem r7 : go pr5 [(2, false), (1, true), (5, false), (10, true), (14, false)] 5 76 = 0 := by decide +kernel
theorem r8 : go pr6 [(2, false), (1, true), (5, false), (10, true), (14, true)] 6 108 = 0 := by decide +kernel
theorem r9 : go pr5 [(2, false), (1, true), (5, true), (8, false), (14, false)] 5 76 = 0 := by decide +kernel
theorem r10 : go pr6 [(2, false), (1, true), (5, true), (8, false), (14, true)] 6 108 = 0 := by decide +kernel
theorem r11 : go pr6 [(2, false), (1, true), (5, true), (8, true), (4, false)] 6 108 = 0 := by decide +kernel
theorem r12 : go pr6 [(2, false), (1, true), (5, true), (8, true), (4, true)] 6 108 = 0 := by decide +kernel
theorem r13 : go pr5 [(2, true), (1, false), (4, false), (17, false)] 5 76 = 0 := by decide +kernel
theorem r14 : go pr6 [(2, true), (1, false), (4, false), (17, true), (5, false)] 6 108 = 0 := by decide +kernel
theorem r15 : go pr6 [(2, true), (1, false), (4, false), (17, true), (5, true)] 6 108 = 0 := by decide +kernel
theorem r16 : go pr5 [(2, true), (1, false), (4, true), (17, false)] 5 76 = 0 := by decide +kernel
theorem r17 : go pr6 [(2, true), (1, false), (4, true), (17, true), (5, false)] 6 108 = 0 := by decide +kernel
theorem r18 : go pr6 [(2, true), (1, false), (4, true), (17, true), (5, true)] 6 108 = 0 := by decide +kernel
theorem r19 : go pr5 [(2, true), (1, true), (17, false), (5, false), (11, false)] 5 76 = 0 := by decide +kernel
theorem r20 : go pr6 [(2, true), (1, true), (17, false), (5, false), (11, true)] 6 108 = 0 := by decide +kernel
theorem r21 : go pr6 [(2, true), (1, true), (17, false), (5, true), (4, false)] 6 108 = 0 := by decide +kernel
theorem r22 : go pr6 [(2, true), (1, true), (17, false), (5, true), (4, true)] 6 108 = 0 := by decide +kernel
theorem r23 : go pr6 [(2, true), (1, true), (17, true), (4, false), (5, false)] 6 108 = 0 := by decide +kernel
theorem r24 : go pr6 [(2, true), (1, true), (17, true), (4, false), (5, true)] 6 108 = 0 := by decide +kernel
theorem r25 : go pr6 [(2, true), (1, true), (17, true), (4, true), (8, false)] 6 108 = 0 := by decide +kernel
theorem r26 : go pr6 [(2, true), (1, true), (17, true), (4, true), (8, true), (14, false), (5, false)] 6 108 = 0 := by decide +kernel
theorem r27 : go pr7 [(2, true), (1, true), (17, true), (4, true), (8, true), (14, false), (5, true)] 7 172 = 0 := by decide +kernel
theorem r28 : go pr6 [(2, true), (1, true), (17, true), (4, true), (8, true), (14, true), (7, false)] 6 108 = 0 := by decide +kernel
theorem r29 : go pr7 [(2, true), (1, true), (17, true), (4, true), (8, true), (14, true), (7, true)] 7 172 = 0 := by decide +kernel
/-- The three ways to be slow. -/
def Slow (V : Nat → Nat) : Prop := (∀ m, m < 77 → V m < 32) ∨ (∀ m, m < 109 → V m < 64) ∨ (∀ m, m < 173 → V m < 128)
theorem good5 (W l : Nat) (_ : 64 ≤ l) (hW : l < W) : Good W l 5 (pr5 W (2 ^ W - 1)) := fun _ _ _ _ hx hy v => pr5_ok hW (by omega) hx hy v
theorem good6 (W l : Nat) (_ : 64 ≤ l) (hW : l < W) : Good W l 6 (pr6 W (2 ^ W - 1)) := fun _ _ _ _ hx hy v => pr6_ok hW (by omega) hx hy v
theorem good7 (W l : Nat) (_ : 64 ≤ l) (hW : l < W) : Good W l 7 (pr7 W (2 ^ W - 1)) := fun _ _ _ _ hx hy v => pr7_ok hW (by omega) hx hy v
def fits (f : Nat → Bool) (fx : List (Nat × Bool)) : Bool := fx.all fun p => f p.1 == p.2
theorem fits_ok {f : Nat → Bool} : ∀ {fx : List (Nat × Bool)}, fits f fx = true → ∀ i b, fx.lookup i = some b → f i = b
  | [], _, i, b, h => by simp at h
  | (j, c) :: fx, hf, i, b, h => by
    simp only [fits, List.all_cons, Bool.and_eq_true, beq_iff_eq] at hf
    rw [List.lookup_cons] at h
    split at h
    · rename_i e
      obtain rfl : i = j := by simpa using e
      rw [hf.1]; exact Option.some.inj h
    · exact fits_ok (fx := fx) hf.2 i b h
variable {V : Nat → Nat} {f : Nat → Bool}
theorem slow5 (hc : Code V fun k b => f (3 * k + b)) {fx : List (Nat × Bool)} (h : go pr5 fx 5 76 = 0) (hf : fits f fx = true) : Slow V := .inl (block (by omega) good5 hc (fits_ok hf) h)
theorem slow6 (hc : Code V fun k b => f (3 * k + b)) {fx : List (Nat × Bool)} (h : go pr6 fx 6 108 = 0) (hf : fits f fx = true) : Slow V := .inr (.inl (block (by omega) good6 hc (fits_ok hf) h))
theorem slow7 (hc : Code V fun k b => f (3 * k + b)) {fx : List (Nat × Bool)} (h : go pr7 fx 7 172 = 0) (hf : fits f fx = true) : Slow V := .inr (.inr (block (by omega) good7 hc (fits_ok hf) h))
theorem slow (hc : Code V fun k b => f (3 * k + b)) : Slow V := by
  cases h2 : f 2
  · cases h1 : f 1
    · cases h4 : f 4
      · cases h5 : f 5
        · exact slow5 hc r0 (by simp [fits, h2, h1, h4, h5])
        · exact slow5 hc r1 (by simp [fits, h2, h1, h4, h5])
      · cases h5 : f 5
        · exact slow5 hc r2 (by simp [fits, h2, h1, h4, h5])
        · cases h17 : f 17
          · exact slow5 hc r3 (by simp [fits, h2, h1, h4, h5, h17])
          · exact slow6 hc r4 (by simp [fits, h2, h1, h4, h5, h17])
    · cases h5 : f 5
      · cases h10 : f 10
        · cases h4 : f 4
          · exact slow5 hc r5 (by simp [fits, h2, h1, h5, h10, h4])
          · exact slow6 hc r6 (by simp [fits, h2, h1, h5, h10, h4])
        · cases h14 : f 14
          · exact slow5 hc r7 (by simp [fits, h2, h1, h5, h10, h14])
          · exact slow6 hc r8 (by simp [fits, h2, h1, h5, h10, h14])
      · cases h8 : f 8
        · cases h14 : f 14
          · exact slow5 hc r9 (by simp [fits, h2, h1, h5, h8, h14])
          · exact slow6 hc r10 (by simp [fits, h2, h1, h5, h8, h14])
        · cases h4 : f 4
          · exact slow6 hc r11 (by simp [fits, h2, h1, h5, h8, h4])
          · exact slow6 hc r12 (by simp [fits, h2, h1, h5, h8, h4])
  · cases h1 : f 1
    · cases h4 : f 4
      · cases h17 : f 17
        · exact slow5 hc r13 (by simp [fits, h2, h1, h4, h17])
        · cases h5 : f 5
          · exact slow6 hc r14 (by simp [fits, h2, h1, h4, h17, h5])
          · exact slow6 hc r15 (by simp [fits, h2, h1, h4, h17, h5])
      · cases h17 : f 17
        · exact slow5 hc r16 (by simp [fits, h2, h1, h4, h17])
        · cases h5 : f 5
          · exact slow6 hc r17 (by simp [fits, h2, h1, h4, h17, h5])
          · exact slow6 hc r18 (by simp [fits, h2, h1, h4, h17, h5])
    · cases h17 : f 17
      · cases h5 : f 5
        · cases h11 : f 11
          · exact slow5 hc r19 (by simp [fits, h2, h1, h17, h5, h11])
          · exact slow6 hc r20 (by simp [fits, h2, h1, h17, h5, h11])
        · cases h4 : f 4
          · exact slow6 hc r21 (by simp [fits, h2, h1, h17, h5, h4])
          · exact slow6 hc r22 (by simp [fits, h2, h1, h17, h5, h4])
      · cases h4 : f 4
        · cases h5 : f 5
          · exact slow6 hc r23 (by simp [fits, h2, h1, h17, h4, h5])
          · exact slow6 hc r24 (by simp [fits, h2, h1, h17, h4, h5])
        · cases h8 : f 8
          · exact slow6 hc r25 (by simp [fits, h2, h1, h17, h4, h8])
          · cases h14 : f 14
            · cases h5 : f 5
              · exact slow6 hc r26 (by simp [fits, h2, h1, h17, h4, h8, h14, h5])
              · exact slow7 hc r27 (by simp [fits, h2, h1, h17, h4, h8, h14, h5])
            · cases h7 : f 7
              · exact slow6 hc r28 (by simp [fits, h2, h1, h17, h4, h8, h14, h7])
              · exact slow7 hc r29 (by simp [fits, h2, h1, h17, h4, h8, h14, h7])
end Go.Proofs.Ytoeacocijcammaa.Lan
