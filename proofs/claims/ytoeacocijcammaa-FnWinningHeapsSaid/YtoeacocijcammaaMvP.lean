/- Moves of heaps: the plain law: which lists a move may leave, and what their values are. -/
import Derived.Test.YtoeacocijcammaaHvE
import Derived.Test.YtoeacocijcammaaLlP
namespace Go.Proofs.Ytoeacocijcammaa

def mv1 (d rest : Nat) : List (List Int) := if d % 2 = 1 ∧ rest = 0 then [[]] else []
def mv2 (d rest : Nat) : List (List Int) := if d / 2 % 2 = 1 ∧ 0 < rest then [[(rest : Int)]] else []
def prs (rest m : Nat) : List (List Int) := (List.range m).map fun (j : Nat) => [((j + 1 : Nat) : Int), ((rest - (j + 1) : Nat) : Int)]
theorem prs_succ (rest m : Nat) : prs rest (m + 1) = prs rest m ++ [[((m + 1 : Nat) : Int), ((rest - (m + 1) : Nat) : Int)]] := by simp [prs, List.range_succ]
theorem prs_len (rest m : Nat) : (prs rest m).length = m := by simp [prs]
def mv4 (d rest : Nat) : List (List Int) := if d / 4 % 2 = 1 then prs rest (rest / 2) else []
def mvK (d rest : Nat) : List (List Int) := mv1 d rest ++ mv2 d rest ++ mv4 d rest
/-- What the first k digits let a heap of h become, in the text's order. -/
def mvTo (xs : List Int) (h : Nat) : Nat → List (List Int)
  | 0 => []
  | k + 1 => mvTo xs h k ++ mvK (xs.getD k 0).toNat (h - (k + 1))
def mvs (xs : List Int) (h : Nat) : List (List Int) := mvTo xs h (min xs.length h)
/-- .. in order, each once. -/
def moves (xs : List Int) (h : Nat) : List (List Int) := putAll [] (mvs xs h)

theorem mvK_len (d rest : Nat) : (mvK d rest).length ≤ rest + 2 := by
  unfold mvK mv1 mv2 mv4
  simp only [List.length_append]
  have : ∀ (c : Prop) [Decidable c] (l : List (List Int)), (if c then l else []).length ≤ l.length := by intro c _ l; split <;> simp
  have h1 := this (d % 2 = 1 ∧ rest = 0) [[]]
  have h2 := this (d / 2 % 2 = 1 ∧ 0 < rest) [[(rest : Int)]]
  have h3 := this (d / 4 % 2 = 1) (prs rest (rest / 2))
  rw [prs_len] at h3
  simp only [List.length_singleton] at h1 h2
  by_cases h0 : rest = 0
  · subst h0; omega
  · have e : (if d % 2 = 1 ∧ rest = 0 then ([[]] : List (List Int)) else []) = [] := if_neg (fun h => h0 h.2)
    rw [e]; simp only [List.length_nil]; omega
theorem mvTo_len (xs : List Int) (h : Nat) : ∀ k, (mvTo xs h k).length ≤ k * (h + 2)
  | 0 => by simp [mvTo]
  | k + 1 => by
    have h1 := mvTo_len xs h k
    have h2 := mvK_len (xs.getD k 0).toNat (h - (k + 1))
    simp only [mvTo, List.length_append]
    rw [Nat.add_mul]
    omega
theorem mvs_len {xs : List Int} {h : Nat} (hx : xs.length ≤ 6) (hh : h ≤ 300) : (mvs xs h).length ≤ 1812 := by
  have h1 := mvTo_len xs h (min xs.length h)
  have : min xs.length h * (h + 2) ≤ 6 * 302 := Nat.mul_le_mul (by omega) (by omega)
  unfold mvs; omega
theorem moves_len {xs : List Int} {h : Nat} (hx : xs.length ≤ 6) (hh : h ≤ 300) : (moves xs h).length ≤ 1812 := by
  have h1 := putAll_len (mvs xs h) []
  have h2 := mvs_len hx hh
  unfold moves; simp at h1; omega
theorem moves_mem {xs : List Int} {h : Nat} {m : List Int} : m ∈ moves xs h ↔ m ∈ mvs xs h := by unfold moves; rw [putAll_mem]; simp
theorem moves_asc (xs : List Int) (h : Nat) : Asc (moves xs h) := putAll_asc Asc.nil
theorem mvTo_mem {xs : List Int} {h : Nat} {m : List Int} : ∀ {k}, m ∈ mvTo xs h k ↔ ∃ i, i < k ∧ m ∈ mvK (xs.getD i 0).toNat (h - (i + 1))
  | 0 => by simp [mvTo]
  | k + 1 => by
    rw [mvTo, List.mem_append, mvTo_mem (k := k)]
    constructor
    · rintro (⟨i, hi, h⟩ | h)
      · exact ⟨i, by omega, h⟩
      · exact ⟨k, by omega, h⟩
    · rintro ⟨i, hi, h⟩
      rcases Nat.lt_or_ge i k with h1 | h1
      · exact .inl ⟨i, h1, h⟩
      · obtain rfl : i = k := by omega
        exact .inr h
theorem mvs_mem {xs : List Int} {h : Nat} {m : List Int} : m ∈ mvs xs h ↔ ∃ i, i < xs.length ∧ i < h ∧ m ∈ mvK (xs.getD i 0).toNat (h - (i + 1)) := by
  unfold mvs
  rw [mvTo_mem]
  exact ⟨fun ⟨i, hi, h⟩ => ⟨i, by omega, by omega, h⟩, fun ⟨i, h1, h2, h⟩ => ⟨i, by omega, h⟩⟩
/-- The three ways. -/
theorem mvK_mem {d rest : Nat} {m : List Int} : m ∈ mvK d rest ↔
    (m = [] ∧ d % 2 = 1 ∧ rest = 0) ∨ (m = [(rest : Int)] ∧ d / 2 % 2 = 1 ∧ 0 < rest) ∨ (∃ j, m = [((j + 1 : Nat) : Int), ((rest - (j + 1) : Nat) : Int)] ∧ d / 4 % 2 = 1 ∧ j < rest / 2) := by
  unfold mvK mv1 mv2 mv4 prs
  rw [List.mem_append, List.mem_append, or_assoc]
  refine or_congr ?_ (or_congr ?_ ?_)
  · split
    · rename_i h; simp [h]
    · rename_i h; simp; intro _; simpa using h
  · split
    · rename_i h; simp [h]
    · rename_i h; simp; intro _; simpa using h
  · split
    · rename_i h
      simp only [List.mem_map, List.mem_range]
      exact ⟨fun ⟨j, hj, e⟩ => ⟨j, e.symm, h, hj⟩, fun ⟨j, e, _, hj⟩ => ⟨j, hj, e.symm⟩⟩
    · rename_i h
      simp
      intro j _ h2; exact absurd h2 h
/-- What a move leaves: numbers from 1 on, their sum, how many they are. -/
theorem mvK_facts {d rest : Nat} {m : List Int} (h : m ∈ mvK d rest) : m.length ≤ 2 ∧ m.sum = (rest : Int) ∧ (∀ x ∈ m, 1 ≤ x) ∧ d / 2 ^ m.length % 2 = 1 := by
  rcases mvK_mem.1 h with ⟨rfl, h1, h2⟩ | ⟨rfl, h1, h2⟩ | ⟨j, rfl, h1, h2⟩
  · subst h2; simp [h1]
  · refine ⟨by simp, by simp, by simp; omega, by simpa using h1⟩
  · refine ⟨by simp, by simp; omega, ?_, by simpa using h1⟩
    intro x hx
    simp only [List.mem_cons, List.not_mem_nil, or_false] at hx
    rcases hx with rfl | rfl <;> omega
end Go.Proofs.Ytoeacocijcammaa
