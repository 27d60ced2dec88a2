/- Reading a number's text: the plain law, the reference's walk. -/
import Derived.Test.YtcogdogiceokdaaDoorNtD
import Derived.Lib.Atoi
namespace Go.Proofs.YtcogdogiceokdaaDoor
open Go.RowKit

theorem decFrom_app : ∀ (l : List UInt8) (acc n d : Nat) (b : UInt8), Lib.decFrom acc l = some n → Lib.digitVal b = some d → Lib.decFrom acc (l ++ [b]) = some (n * 10 + d)
  | [], acc, n, d, b, h, hd => by
    simp only [Lib.decFrom, Option.some.injEq] at h
    subst h
    simp [Lib.decFrom, hd]
  | a :: t, acc, n, d, b, h, hd => by
    simp only [List.cons_append, Lib.decFrom] at h ⊢
    cases ha : Lib.digitVal a with
    | none => simp [ha] at h
    | some e =>
      simp only [ha] at h ⊢
      exact decFrom_app t _ n d b h hd
theorem digit_val : ∀ d : Fin 10, Lib.digitVal (UInt8.ofNat (48 + d.val)) = some d.val := by decide
theorem dec_digits (u : Nat) : Lib.decFrom 0 (Lib.decDigits u) = some u := by
  induction u using Nat.strongRecOn with
  | _ u ih =>
    by_cases h : u < 10
    · rw [Lib.decDigits, dif_pos h]
      have := digit_val ⟨u, h⟩
      simp only at this
      simp only [Lib.decFrom, this, Nat.zero_mul, Nat.zero_add]
    · rw [Lib.decDigits, dif_neg h]
      have h1 := digit_val ⟨u % 10, Nat.mod_lt _ (by omega)⟩
      rw [decFrom_app _ _ _ _ _ (ih (u / 10) (by omega)) h1]
      congr 1
      simp only
      omega
theorem decDigits_ne (u : Nat) : Lib.decDigits u ≠ [] := by
  intro e
  have h1 := Lib.decDigits_length u
  rw [e] at h1
  have := Lib.nDigits_pos u
  simp at h1; omega
theorem decDigits_cons (u : Nat) : ∃ b r, Lib.decDigits u = b :: r ∧ b ≠ 45 ∧ b ≠ 43 := by
  rcases h : Lib.decDigits u with _ | ⟨b, r⟩
  · exact absurd h (decDigits_ne u)
  · obtain ⟨d, hd⟩ := Lib.digit_of_decFrom _ 0 u (dec_digits u) 0 b (by rw [h]; rfl)
    obtain ⟨h1, h2, _⟩ := Lib.digitVal_eq hd
    refine ⟨b, r, rfl, ?_, ?_⟩ <;> (rintro rfl; revert h1; decide)
theorem atoi_itoa (n : Int) : Lib.atoi (Lib.itoa n) = some n := by
  unfold Lib.itoa
  split
  · simp only [Lib.atoi, Lib.decNat]
    rw [if_pos (by decide), dec_digits]
    have : (Lib.decDigits n.natAbs).isEmpty = false := by
      rw [List.isEmpty_eq_false_iff]; exact decDigits_ne _
    rw [this]
    simp only [Bool.false_eq_true, if_false, Option.map_some, Option.some.injEq]
    omega
  · obtain ⟨b, r, h, h1, h2⟩ := decDigits_cons n.toNat
    have hd := dec_digits n.toNat
    rw [h] at hd ⊢
    have e1 : (b == 45) = false := by simpa using h1
    have e2 : (b == 43) = false := by simpa using h2
    simp only [Lib.atoi, Lib.decNat, e1, e2, List.isEmpty_cons, Bool.false_eq_true, if_false, hd, Option.map_some, Option.some.injEq]
    omega
theorem numB_list (n : Int) : (strOfNums (numB n)).data.toList = Lib.itoa n := by rw [numB_itoa]
/-- The number of a text. -/
def numOf (s : ByteArray) : Option Int := match Lib.atoi s.data.toList with
  | some n => if -999999 ≤ n ∧ n ≤ 999999 ∧ strOfNums (numB n) = s then some n else none
  | none => none
theorem numOf_some {s : ByteArray} {n : Int} : numOf s = some n ↔ -999999 ≤ n ∧ n ≤ 999999 ∧ strOfNums (numB n) = s := by
  constructor
  · intro h
    unfold numOf at h
    split at h
    · split at h
      · rename_i k
        have e := Option.some.inj h
        rw [← e]; exact k
      · cases h
    · cases h
  · intro h
    have h1 : Lib.atoi s.data.toList = some n := by rw [← h.2.2, numB_list, atoi_itoa]
    unfold numOf
    rw [h1]
    exact if_pos h
def readT (s : ByteArray) : Int × Bool := match numOf s with
  | some n => (n, true)
  | none => (0, false)
theorem readT_some {s : ByteArray} {n : Int} (h : numOf s = some n) : readT s = (n, true) := by unfold readT; rw [h]
theorem readT_none {s : ByteArray} (h : numOf s = none) : readT s = (0, false) := by unfold readT; rw [h]
theorem numOf_none {s : ByteArray} (h : ∀ n, ¬ (-999999 ≤ n ∧ n ≤ 999999 ∧ strOfNums (numB n) = s)) : numOf s = none := by
  cases h1 : numOf s
  · rfl
  · exact absurd (numOf_some.1 h1) (h _)
/-- What the reference's digits spell. -/
def specP (L : List UInt8) : Option Int :=
  if 1 < L.length ∧ L.getD 0 0 = 45 then (if L.length ≤ 7 then (Lib.decFrom 0 (L.drop 1)).map fun (m : Nat) => -(m : Int) else none)
  else if 1 ≤ L.length ∧ L.length ≤ 6 then (Lib.decFrom 0 L).map fun (m : Nat) => (m : Int) else none
theorem nDigits_le {u : Nat} (h : u ≤ 999999) : Lib.nDigits u ≤ 6 := by
  rw [← Lib.decDigits_length]
  have h1 := digB_len 5 u (by omega)
  have h2 := congrArg ByteArray.size (digB_itoa u)
  rw [strOfNums_size] at h2
  have h3 : (⟨(Lib.decDigits u).toArray⟩ : ByteArray).size = (Lib.decDigits u).length := by
    show (Lib.decDigits u).toArray.size = _
    simp
  omega
theorem specP_itoa {n : Int} (h0 : -999999 ≤ n) (h1 : n ≤ 999999) : specP (Lib.itoa n) = some n := by
  unfold Lib.itoa
  split
  · have hl := Lib.decDigits_length n.natAbs
    have hp := Lib.nDigits_pos n.natAbs
    have hd := nDigits_le (u := n.natAbs) (by omega)
    unfold specP
    rw [if_pos ⟨by simp; omega, rfl⟩, if_pos (by simp; omega)]
    simp only [List.drop_succ_cons, List.drop_zero, dec_digits, Option.map_some, Option.some.injEq]
    omega
  · have hl := Lib.decDigits_length n.toNat
    have hp := Lib.nDigits_pos n.toNat
    have hd := nDigits_le (u := n.toNat) (by omega)
    obtain ⟨b, r, h, hb, _⟩ := decDigits_cons n.toNat
    have hdd := dec_digits n.toNat
    rw [h] at hl hdd ⊢
    unfold specP
    rw [if_neg (fun k => hb k.2), if_pos ⟨by omega, by omega⟩, hdd]
    simp only [Option.map_some, Option.some.injEq]
    omega
theorem numOf_specP {s : ByteArray} {n : Int} (h : numOf s = some n) : specP s.data.toList = some n := by
  obtain ⟨h0, h1, h2⟩ := numOf_some.1 h
  rw [← h2, numB_list]
  exact specP_itoa h0 h1
theorem specP_range {L : List UInt8} {n : Int} (h : specP L = some n) : -999999 ≤ n ∧ n ≤ 999999 := by
  unfold specP at h
  split at h
  · split at h
    · rename_i hl
      obtain ⟨m, hm, rfl⟩ := Option.map_eq_some_iff.1 h
      have h1 := Lib.decFrom_lt _ _ _ hm
      have h2 : (L.drop 1).length ≤ 6 := by simp; omega
      have h3 : 10 ^ (L.drop 1).length ≤ 10 ^ 6 := Nat.pow_le_pow_right (by omega) h2
      omega
    · cases h
  · split at h
    · rename_i hl
      obtain ⟨m, hm, rfl⟩ := Option.map_eq_some_iff.1 h
      have h1 := Lib.decFrom_lt _ _ _ hm
      have h3 : 10 ^ L.length ≤ 10 ^ 6 := Nat.pow_le_pow_right (by omega) hl.2
      omega
    · cases h
theorem fin_no {s : ByteArray} (h : specP s.data.toList = none) : readT s = (0, false) := by
  refine readT_none ?_
  cases h1 : numOf s
  · rfl
  · rw [numOf_specP h1] at h; cases h
theorem fin_yes {s : ByteArray} {n : Int} (h : specP s.data.toList = some n) (h2 : strOfNums (numB n) = s) : readT s = (n, true) :=
  readT_some (numOf_some.2 ⟨(specP_range h).1, (specP_range h).2, h2⟩)
theorem fin_other {s : ByteArray} {n : Int} (h : specP s.data.toList = some n) (h2 : ¬ strOfNums (numB n) = s) : readT s = (0, false) := by
  refine readT_none ?_
  cases h1 : numOf s
  · rfl
  · rename_i n'
    have h3 := numOf_specP h1
    rw [h] at h3
    have := Option.some.inj h3
    subst this
    exact absurd (numOf_some.1 h1).2.2 h2
theorem ret_iv2 {a : Int} {c : Bool} {m : Int × Bool} (h : m = (a, c)) : Ending.returned (.tuple #[.int .i64 a, .bool c]) = .returned (.tuple #[.int .i64 m.1, .bool m.2]) := by rw [h]
theorem bad_digit {T : List UInt8} {k m : Nat} {b : UInt8} (hk : T[k]? = some b) (hd : Lib.digitVal b = none) : Lib.decFrom 0 T = none := by
  cases h : Lib.decFrom 0 T
  · rfl
  · obtain ⟨d, h1⟩ := Lib.digit_of_decFrom _ _ _ h k b hk
    rw [hd] at h1; cases h1
theorem getT {t : ByteArray} {k : Nat} (h : k < t.size) : t.data.toList[k]? = some t[k] := by
  have h1 : k < t.data.toList.length := by simpa using h
  rw [List.getElem?_eq_getElem h1, Array.getElem_toList]
  rfl
end Go.Proofs.YtcogdogiceokdaaDoor
