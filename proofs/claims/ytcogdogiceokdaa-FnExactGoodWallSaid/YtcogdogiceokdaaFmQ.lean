/- Walls: plain facts on where the two loops stop. -/
import Derived.Test.YtcogdogiceokdaaFmN
namespace Go.Proofs.Ytcogdogiceokdaa
open Go.RowKit

abbrev DatW := List Int × List (List Int)
def ptD (d : DatW) : Int × Int := (sc 16 (d.1.getD 0 0) (d.1.getD 1 0), sc 16 (d.1.getD 2 0) (d.1.getD 3 0))
def gpD (d : DatW) : Bool := gd (d.1.getD 0 0) (d.1.getD 1 0) && gd (d.1.getD 2 0) (d.1.getD 3 0)
def orig (d : DatW) : Bool := (d.1.getD 0 0 == 0) && (d.1.getD 1 0 == 0)
def wallC (ds : List DatW) : Bool := (decide (1 ≤ ds.length) && decide (ds.length ≤ 40)) && (orig (ds.getD 0 ([], [])) && (ds.all gpD && prg 2 (ds.map ptD)))
theorem wall_len {ds : List DatW} (h : ¬ (1 ≤ ds.length ∧ ds.length ≤ 40)) : wallC ds = false := by
  unfold wallC
  have : (decide (1 ≤ ds.length) && decide (ds.length ≤ 40)) = false := by
    rw [← Bool.not_eq_true, Bool.and_eq_true, decide_eq_true_eq, decide_eq_true_eq]; exact h
  rw [this]; rfl
theorem wall_orig {ds : List DatW} {d : DatW} (h : ds[0]? = some d) (ho : orig d = false) : wallC ds = false := by
  unfold wallC
  rw [show ds.getD 0 ([], []) = d by rw [List.getD, h]; rfl, ho]
  simp
theorem wall_gp {ds : List DatW} {d : DatW} {k : Nat} (h : ds[k]? = some d) (ho : gpD d = false) : wallC ds = false := by
  unfold wallC
  have : ds.all gpD = false := by
    rw [← Bool.not_eq_true, List.all_eq_true]
    intro hh
    rw [hh d (List.mem_of_getElem? h)] at ho
    cases ho
  rw [this]
  simp
theorem wall_prg {ds : List DatW} (h : prg 2 (ds.map ptD) = false) : wallC ds = false := by
  unfold wallC
  rw [h]
  simp
theorem wall_all {ds : List DatW} (h1 : 1 ≤ ds.length) (h2 : ds.length ≤ 40) (h3 : ∀ d, ds[0]? = some d → orig d = true) (h4 : ∀ (k : Nat) d, ds[k]? = some d → gpD d = true) : wallC ds = prg 2 (ds.map ptD) := by
  unfold wallC
  have h5 : orig (ds.getD 0 ([], [])) = true := by
    have : ds[0]? = some ds[0] := List.getElem?_eq_getElem (by omega)
    rw [List.getD, this]
    exact h3 _ this
  have h6 : ds.all gpD = true := by
    rw [List.all_eq_true]
    intro d hd
    obtain ⟨k, hk⟩ := List.mem_iff_getElem?.1 hd
    exact h4 k d hk
  rw [decide_eq_true h1, decide_eq_true h2, h5, h6]
  simp
theorem prg_step {P : List (Int × Int)} {k : Nat} {a b : Int × Int} (last : Int) (h1 : P[k]? = some a) (h2 : P[k + 1]? = some b) :
    prg last (P.drop k) = (decide (a.1 < b.1) && (slp a b != 2 && (slp a b != last && prg (slp a b) (P.drop (k + 1))))) := by
  obtain ⟨i1, e1⟩ := List.getElem?_eq_some_iff.1 h1
  obtain ⟨i2, e2⟩ := List.getElem?_eq_some_iff.1 h2
  rw [List.drop_eq_getElem_cons i1, List.drop_eq_getElem_cons i2, e1, e2]
  rfl
theorem prg_last {P : List (Int × Int)} {k : Nat} {a : Int × Int} (last : Int) (h1 : P[k]? = some a) (h2 : P.length = k + 1) : prg last (P.drop k) = (last != 0) := by
  obtain ⟨i1, e1⟩ := List.getElem?_eq_some_iff.1 h1
  rw [List.drop_eq_getElem_cons i1, List.drop_of_length_le (by omega)]
  rfl
theorem incr_iff : ∀ {l : List (Int × Int)}, incr l = true ↔ ∀ i a b, l[i]? = some a → l[i + 1]? = some b → a.1 < b.1
  | [] => by simp [incr]
  | [x] => by simp [incr]
  | x :: y :: r => by
    rw [incr, Bool.and_eq_true, decide_eq_true_eq, incr_iff]
    refine ⟨fun ⟨h1, h2⟩ i a b ha hb => ?_, fun h => ⟨h 0 x y rfl rfl, fun i a b ha hb => h (i + 1) a b (by simpa using ha) (by simpa using hb)⟩⟩
    cases i with
    | zero =>
      have e1 : x = a := by simpa using ha
      have e2 : y = b := by simpa using hb
      subst e1 e2; exact h1
    | succ i => exact h2 i a b (by simpa using ha) (by simpa using hb)
def nxtO (b : Int × Int) : Option (Int × Int) → Int
  | some c => slp b c
  | none => 0
theorem nxt_eq (b : Int × Int) (r : List (Int × Int)) : nxt b r = nxtO b r[0]? := by cases r <;> rfl
theorem spc_iff : ∀ {l : List (Int × Int)}, spc l = true ↔ ∀ i a b, l[i]? = some a → l[i + 1]? = some b → slp a b ≠ 2 ∧ slp a b ≠ nxtO b l[i + 2]?
  | [] => by simp [spc]
  | [x] => by simp [spc]
  | x :: y :: r => by
    rw [spc, Bool.and_eq_true, Bool.and_eq_true, spc_iff, nxt_eq]
    refine ⟨fun ⟨h1, h2, h3⟩ i a b ha hb => ?_, fun h => ?_⟩
    · cases i with
      | zero =>
        have e1 : x = a := by simpa using ha
        have e2 : y = b := by simpa using hb
        subst e1 e2
        exact ⟨by simpa using h1, by simpa using h2⟩
      | succ i => exact h3 i a b (by simpa using ha) (by simpa using hb)
    · have h0 := h 0 x y rfl rfl
      exact ⟨by simpa using h0.1, by simpa using h0.2, fun i a b ha hb => h (i + 1) a b (by simpa using ha) (by simpa using hb)⟩
theorem sc20 {t p : Int} (h : gd t p = true) : sc 20 t p = sc 16 t p * 16 := by
  have := gd_rng h
  exact sc_up (n := 16) (m := 20) (by omega) (by omega)
theorem sc16_bd {t p : Int} (h : gd t p = true) : -70000000000 ≤ sc 16 t p ∧ sc 16 t p ≤ 70000000000 := by
  have := gd_rng h
  have h2 := sc_bd (n := 16) (t := t) (p := p) (by omega) (by omega)
  simp at h2
  omega
end Go.Proofs.Ytcogdogiceokdaa
