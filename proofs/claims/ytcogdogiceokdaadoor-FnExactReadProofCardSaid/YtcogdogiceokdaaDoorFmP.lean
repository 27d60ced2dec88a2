/- Plain: how often each number of a list stands in it; claims whose numbers are of claims ahead alone. -/
namespace Go.Proofs.YtcogdogiceokdaaDoor

/-- How often each of the numbers below n stands in a list. -/
def cnt (n : Nat) (F : List Int) : List Int := (List.range n).map fun (j : Nat) => ((F.count (j : Int) : Nat) : Int)
theorem cnt_len (n : Nat) (F : List Int) : (cnt n F).length = n := by simp [cnt]
theorem cnt_nil (n : Nat) : cnt n [] = List.replicate n 0 := by
  apply List.ext_getElem
  · simp [cnt]
  · intro i h1 h2; simp [cnt]
theorem cnt_getD {n j : Nat} (F : List Int) (h : j < n) : (cnt n F).getD j 0 = ((F.count (j : Int) : Nat) : Int) := by simp [cnt, h]
theorem cnt_le {n j : Nat} (F : List Int) (h : j < n) : 0 ≤ (cnt n F).getD j 0 ∧ (cnt n F).getD j 0 ≤ (F.length : Int) := by
  rw [cnt_getD F h]
  have := List.count_le_length (a := (j : Int)) (l := F)
  omega
theorem cnt_set {n j : Nat} (F : List Int) (h : j < n) : (cnt n F).set j ((cnt n F).getD j 0 + 1) = cnt n (F ++ [(j : Int)]) := by
  rw [cnt_getD F h]
  apply List.ext_getElem
  · simp [cnt]
  · intro i h1 h2
    have hi : i < n := by simpa [cnt] using h2
    rw [List.getElem_set]
    by_cases e : j = i
    · subst e
      simp [cnt, List.count_append]
    · have h3 : (F ++ [(j : Int)]).count (i : Int) = F.count (i : Int) := by
        rw [List.count_append, List.count_singleton]
        have : ¬ ((j : Int) == (i : Int)) = true := by simp; omega
        simp [this]
      rw [if_neg e]
      simp only [cnt, List.getElem_map, List.getElem_range]
      rw [h3]
/-- Numbers from 0 to below k. -/
def low (k : Nat) (l : List Int) : Bool := l.all fun x => decide (0 ≤ x) && decide (x < (k : Int))
theorem low_nil (k : Nat) : low k [] = true := rfl
theorem low_cons (k : Nat) (x : Int) (l : List Int) : low k (x :: l) = ((decide (0 ≤ x) && decide (x < (k : Int))) && low k l) := rfl
theorem low_iff {k : Nat} {l : List Int} : low k l = true ↔ ∀ x ∈ l, 0 ≤ x ∧ x < (k : Int) := by simp [low, List.all_eq_true]
/-- What stands in the lists of a struct, the k-th of all. -/
abbrev Dat := List Int × List (List Int)
def lowD (k : Nat) (d : Dat) : Bool := d.2.all (low k)
def shapeFrom : Nat → List Dat → Bool
  | _, [] => true
  | k, d :: l => lowD k d && shapeFrom (k + 1) l
def shape (ds : List Dat) : Bool := decide (ds.length ≤ 200) && shapeFrom 0 ds
def flat (ds : List Dat) : List Int := ds.flatMap fun d => d.2.flatten
theorem flat_app (a b : List Dat) : flat (a ++ b) = flat a ++ flat b := by simp [flat]
theorem shapeFrom_iff : ∀ {ds : List Dat} {k : Nat}, shapeFrom k ds = true ↔ ∀ j d, ds[j]? = some d → lowD (k + j) d = true
  | [], k => by simp [shapeFrom]
  | d :: l, k => by
    rw [shapeFrom, Bool.and_eq_true, shapeFrom_iff]
    refine ⟨fun ⟨h1, h2⟩ j e hj => ?_, fun h => ⟨h 0 d rfl, fun j e hj => ?_⟩⟩
    · cases j with
      | zero => have : d = e := by simpa using hj
                subst this; exact h1
      | succ j => have := h2 j e (by simpa using hj)
                  rwa [show k + 1 + j = k + (j + 1) by omega] at this
    · have := h (j + 1) e (by simpa using hj)
      rwa [show k + (j + 1) = k + 1 + j by omega] at this
theorem shape_iff {ds : List Dat} : shape ds = true ↔ ds.length ≤ 200 ∧ ∀ j d, ds[j]? = some d → lowD j d = true := by
  rw [shape, Bool.and_eq_true, decide_eq_true_eq, shapeFrom_iff]
  simp
/-- What UsesOf hands back. -/
def useC (ds : List Dat) : List Int × Bool := if shape ds then (cnt ds.length (flat ds), true) else ([], false)
end Go.Proofs.YtcogdogiceokdaaDoor
