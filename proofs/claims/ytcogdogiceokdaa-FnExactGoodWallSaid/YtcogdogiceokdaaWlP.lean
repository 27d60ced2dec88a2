/- Walls: the plain law. A wall is a list of points (x, y), scaled. -/
import Derived.Test.YtcogdogiceokdaaMem
namespace Go.Proofs.Ytcogdogiceokdaa

/-- How a wall goes between two points: 0, 1, -1, or 2 where it goes otherwise. -/
def slp (a b : Int × Int) : Int := if b.2 - a.2 = 0 then 0 else if b.2 - a.2 = b.1 - a.1 then 1 else if b.2 - a.2 = -(b.1 - a.1) then -1 else 2
/-- The program's loop: 'last' is the slope ahead. -/
def prg (last : Int) : List (Int × Int) → Bool
  | a :: b :: r => decide (a.1 < b.1) && (slp a b != 2 && (slp a b != last && prg (slp a b) (b :: r)))
  | _ => last != 0
/-- The reference's first loop: the costs rise. -/
def incr : List (Int × Int) → Bool
  | a :: b :: r => decide (a.1 < b.1) && incr (b :: r)
  | _ => true
/-- The slope that follows a point, 0 at the end. -/
def nxt (b : Int × Int) : List (Int × Int) → Int
  | c :: _ => slp b c
  | [] => 0
/-- The reference's second loop. -/
def spc : List (Int × Int) → Bool
  | a :: b :: r => slp a b != 2 && (slp a b != nxt b r && spc (b :: r))
  | _ => true
theorem wall_at : ∀ (l : List (Int × Int)) (a : Int × Int) (last : Int), prg last (a :: l) = (incr (a :: l) && (spc (a :: l) && (last != nxt a l)))
  | [], a, last => by simp [prg, incr, spc, nxt]
  | b :: r, a, last => by
    rw [prg, wall_at r b (slp a b), incr, spc]
    have e : nxt a (b :: r) = slp a b := rfl
    rw [e]
    have h : (slp a b != last) = (last != slp a b) := by rw [bne_comm]
    rw [h]
    cases decide (a.1 < b.1) <;> cases (slp a b != 2) <;> cases (last != slp a b) <;> cases incr (b :: r) <;> cases spc (b :: r) <;> cases (slp a b != nxt b r) <;> rfl
/-- Both say the same of a wall. -/
theorem wall_same (a : Int × Int) (l : List (Int × Int)) : prg 2 (a :: l) = (incr (a :: l) && spc (a :: l)) := by
  rw [wall_at]
  cases l with
  | nil => simp [nxt]
  | cons b r =>
    rw [spc]
    have e : nxt a (b :: r) = slp a b := rfl
    rw [e]
    have h : (2 != slp a b) = (slp a b != 2) := by rw [bne_comm]
    rw [h]
    cases incr (a :: b :: r) <;> cases (slp a b != 2) <;> cases (slp a b != nxt b r) <;> cases spc (b :: r) <;> rfl
/-- The program's quotient is the slope. -/
theorem slp_quot {a b : Int × Int} (h : a.1 < b.1) (h2 : slp a b ≠ 2) : (b.2 - a.2).tdiv (b.1 - a.1) = slp a b := by
  have hs : b.1 - a.1 ≠ 0 := by omega
  unfold slp at h2 ⊢
  split
  · rename_i e; rw [e]; simp
  · split
    · rename_i e; rw [e]; exact Int.tdiv_self hs
    · split
      · rename_i e; rw [e, Int.neg_tdiv, Int.tdiv_self hs]
      · rename_i h3 h4 h5
        rw [if_neg h3, if_neg h4, if_neg h5] at h2
        exact absurd rfl h2
theorem slp_two {a b : Int × Int} : slp a b = 2 ↔ (b.2 - a.2 ≠ 0 ∧ b.2 - a.2 ≠ b.1 - a.1 ∧ b.2 - a.2 ≠ -(b.1 - a.1)) := by
  unfold slp
  split
  · simp [*]
  · split
    · simp [*]
    · split <;> simp [*]
def scl (k : Int) (a : Int × Int) : Int × Int := (a.1 * k, a.2 * k)
theorem mul_in {k : Int} (hk : 0 < k) {x y : Int} : x * k = y * k ↔ x = y := ⟨fun h => Int.eq_of_mul_eq_mul_right (by omega) h, fun h => by rw [h]⟩
theorem slp_scl {k : Int} (hk : 0 < k) (a b : Int × Int) : slp (scl k a) (scl k b) = slp a b := by
  have e1 : b.2 * k - a.2 * k = (b.2 - a.2) * k := by rw [Int.sub_mul]
  have e2 : b.1 * k - a.1 * k = (b.1 - a.1) * k := by rw [Int.sub_mul]
  have e3 : -((b.1 - a.1) * k) = -(b.1 - a.1) * k := by rw [Int.neg_mul]
  have e0 : (0 : Int) = 0 * k := by rw [Int.zero_mul]
  unfold slp scl
  simp only [e1, e2, e3]
  have h0 : ((b.2 - a.2) * k = 0) = (b.2 - a.2 = 0) := propext ⟨fun h => (mul_in hk).1 (h.trans e0), fun h => by rw [h, Int.zero_mul]⟩
  have h1 : ((b.2 - a.2) * k = (b.1 - a.1) * k) = (b.2 - a.2 = b.1 - a.1) := propext (mul_in hk)
  have h2 : ((b.2 - a.2) * k = -(b.1 - a.1) * k) = (b.2 - a.2 = -(b.1 - a.1)) := propext (mul_in hk)
  simp only [h0, h1, h2]
theorem lt_scl {k : Int} (hk : 0 < k) (a b : Int × Int) : decide ((scl k a).1 < (scl k b).1) = decide (a.1 < b.1) := by
  have : ((scl k a).1 < (scl k b).1) = (a.1 < b.1) := propext ⟨fun h => Int.lt_of_mul_lt_mul_right h (by omega), fun h => Int.mul_lt_mul_of_pos_right h hk⟩
  simp only [this]
theorem incr_scl {k : Int} (hk : 0 < k) : ∀ l : List (Int × Int), incr (l.map (scl k)) = incr l
  | [] => rfl
  | [_] => rfl
  | a :: b :: r => by
    have h := incr_scl hk (b :: r)
    rw [List.map_cons] at h
    rw [List.map_cons, List.map_cons, incr, incr, lt_scl hk, h]
theorem nxt_scl {k : Int} (hk : 0 < k) (b : Int × Int) : ∀ r : List (Int × Int), nxt (scl k b) (r.map (scl k)) = nxt b r
  | [] => rfl
  | c :: r => slp_scl hk b c
theorem spc_scl {k : Int} (hk : 0 < k) : ∀ l : List (Int × Int), spc (l.map (scl k)) = spc l
  | [] => rfl
  | [_] => rfl
  | a :: b :: r => by
    have h := spc_scl hk (b :: r)
    rw [List.map_cons] at h
    rw [List.map_cons, List.map_cons, spc, spc, slp_scl hk, nxt_scl hk, h]
end Go.Proofs.Ytcogdogiceokdaa
