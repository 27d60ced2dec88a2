/- Values of heaps: the plain law: what a move leaves, the least number left out, the bound. -/
import Derived.Test.YtoeacocijcammaaMex
namespace Go.Proofs.Ytoeacocijcammaa

/-- The values that splitting `rest` into two leaves, the lesser part being 1 .. m. -/
def splits (v : List Nat) (rest m : Nat) : List Nat := (List.range m).map fun j => v.getD (j + 1) 0 ^^^ v.getD (rest - (j + 1)) 0
theorem splits_succ (v : List Nat) (rest m : Nat) : splits v rest (m + 1) = splits v rest m ++ [v.getD (m + 1) 0 ^^^ v.getD (rest - (m + 1)) 0] := by
  simp [splits, List.range_succ]
def opt1 (d rest : Nat) : List Nat := if d % 2 = 1 ∧ rest = 0 then [0] else []
def opt2 (v : List Nat) (d rest : Nat) : List Nat := if d / 2 % 2 = 1 ∧ 0 < rest then [v.getD rest 0] else []
def opt4 (v : List Nat) (d rest : Nat) : List Nat := if d / 4 % 2 = 1 then splits v rest (rest / 2) else []
def optK (v : List Nat) (d rest : Nat) : List Nat := opt1 d rest ++ opt2 v d rest ++ opt4 v d rest
/-- What the first k digits let a heap of h become. -/
def optsTo (xs : List Int) (v : List Nat) (h : Nat) : Nat → List Nat
  | 0 => []
  | k + 1 => optsTo xs v h k ++ optK v (xs.getD k 0).toNat (h - (k + 1))
def opts (xs : List Int) (v : List Nat) (h : Nat) : List Nat := optsTo xs v h (min xs.length h)
def mexN (l : List Nat) : Nat := mex (l.map fun (n : Nat) => (n : Int))
theorem mem_cast {l : List Nat} {i : Nat} : ((i : Nat) : Int) ∈ l.map (fun (n : Nat) => (n : Int)) ↔ i ∈ l := by
  simp only [List.mem_map]
  exact ⟨fun ⟨a, ha, e⟩ => by obtain rfl : a = i := by omega
                              exact ha, fun h => ⟨i, h, rfl⟩⟩
theorem mexN_all (l : List Nat) : ∀ i, i < mexN l → i ∈ l := fun i hi => by
  exact mem_cast.1 (mex_all (l.map fun (n : Nat) => (n : Int)) i hi)
theorem mexN_not (l : List Nat) : mexN l ∉ l := fun h => mex_not (l.map fun (n : Nat) => (n : Int)) (mem_cast.2 h)
theorem mexN_le {l : List Nat} {b : Nat} (h : ∀ x ∈ l, x < b) : mexN l ≤ b := by
  rcases Nat.lt_or_ge b (mexN l) with h1 | h1
  · exact absurd (h b (mexN_all l b h1)) (Nat.lt_irrefl _)
  · exact h1
/-- The values of the heaps 0 .. n - 1. -/
def vals (xs : List Int) : Nat → List Nat
  | 0 => []
  | n + 1 => vals xs n ++ [mexN (opts xs (vals xs n) n)]
theorem vals_len (xs : List Int) : ∀ n, (vals xs n).length = n
  | 0 => rfl
  | n + 1 => by simp [vals, vals_len xs n]
theorem vals_take (xs : List Int) : ∀ {m n : Nat}, m ≤ n → (vals xs n).take m = vals xs m
  | m, 0, h => by obtain rfl : m = 0 := by omega
                  rfl
  | m, n + 1, h => by
    by_cases e : m = n + 1
    · subst e; rw [List.take_of_length_le (by rw [vals_len]; omega)]
    · rw [vals, List.take_append_of_le_length (by rw [vals_len]; omega), vals_take xs (by omega)]
theorem vals_get (xs : List Int) {j n : Nat} (h : j < n) : (vals xs n).getD j 0 = mexN (opts xs (vals xs j) j) := by
  have h1 := vals_take xs (m := j + 1) (n := n) (by omega)
  have h2 : (vals xs (j + 1)).getD j 0 = mexN (opts xs (vals xs j) j) := by
    simp [vals, List.getD, List.getElem?_append_right, vals_len]
  rw [← h2, ← h1]
  simp [List.getD, List.getElem?_take, show j < j + 1 by omega]
theorem xor_le_add (a b : Nat) : a ^^^ b ≤ a + b := by
  by_cases h : a = 0
  · subst h; simp
  · have ih := xor_le_add (a / 2) (b / 2)
    have h1 : (a ^^^ b) / 2 = a / 2 ^^^ b / 2 := Nat.xor_div_two
    have h2 : (a ^^^ b) % 2 ≤ a % 2 + b % 2 := by
      have e : (a ^^^ b) % 2 = (a % 2) ^^^ (b % 2) := Nat.xor_mod_two_pow (n := 1)
      rw [e]
      rcases Nat.mod_two_eq_zero_or_one a with h3 | h3 <;> rcases Nat.mod_two_eq_zero_or_one b with h4 | h4 <;> rw [h3, h4] <;> decide
    omega
termination_by a
/-- Each value is its heap's size at most. -/
def Low (v : List Nat) : Prop := ∀ j, v.getD j 0 ≤ j
theorem splits_low {v : List Nat} (hv : Low v) {rest m : Nat} (hm : m ≤ rest) : ∀ x ∈ splits v rest m, x ≤ rest := by
  intro x hx
  simp only [splits, List.mem_map, List.mem_range] at hx
  obtain ⟨j, hj, rfl⟩ := hx
  have h1 := hv (j + 1)
  have h2 := hv (rest - (j + 1))
  have h3 := xor_le_add (v.getD (j + 1) 0) (v.getD (rest - (j + 1)) 0)
  omega
theorem optK_low {v : List Nat} (hv : Low v) (d rest : Nat) : ∀ x ∈ optK v d rest, x ≤ rest := by
  intro x hx
  simp only [optK, List.mem_append] at hx
  rcases hx with (h | h) | h
  · unfold opt1 at h; split at h
    · simp at h; omega
    · simp at h
  · unfold opt2 at h; split at h
    · simp only [List.mem_singleton] at h; subst h; exact hv rest
    · simp at h
  · unfold opt4 at h; split at h
    · exact splits_low hv (Nat.div_le_self _ _) x h
    · simp at h
theorem optsTo_low {xs : List Int} {v : List Nat} (hv : Low v) {h : Nat} : ∀ k, k ≤ h → ∀ x ∈ optsTo xs v h k, x < h
  | 0, _, x, hx => by simp [optsTo] at hx
  | k + 1, hk, x, hx => by
    simp only [optsTo, List.mem_append] at hx
    rcases hx with hx | hx
    · exact optsTo_low hv k (by omega) x hx
    · have := optK_low hv _ _ x hx; omega
theorem opts_low {xs : List Int} {v : List Nat} (hv : Low v) {h : Nat} : ∀ x ∈ opts xs v h, x < h := optsTo_low hv _ (Nat.min_le_right _ _)
theorem vals_low (xs : List Int) : ∀ n, Low (vals xs n)
  | 0 => fun j => by simp [vals]
  | n + 1 => fun j => by
    rcases Nat.lt_trichotomy j n with h | h | h
    · have h1 : (vals xs (n + 1)).getD j 0 = (vals xs n).getD j 0 := by rw [vals_get xs (by omega), vals_get xs h]
      rw [h1]; exact vals_low xs n j
    · subst h
      rw [vals_get xs (by omega)]
      exact mexN_le (opts_low (vals_low xs j))
    · simp [List.getD, List.getElem?_eq_none (show (vals xs (n + 1)).length ≤ j by rw [vals_len]; omega)]
/-- All are nimbers. -/
def nims (l : List Nat) : Bool := l.all fun x => decide (x ≤ 255)
def valsC (xs : List Int) (n : Nat) : List Int × Bool := if nims (vals xs (n + 1)) then ((vals xs (n + 1)).map fun (x : Nat) => (x : Int), true) else ([], false)
end Go.Proofs.Ytoeacocijcammaa
