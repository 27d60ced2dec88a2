/- Joining texts, by the program and by the reference. -/
import Derived.Test.YtcogdogiceokdaaDoorTxD
import Derived.Test.YtcogdogiceokdaaDoorShelf
import Derived.Lib.IndexLaws
import Derived.Lib.Join
namespace Go.Proofs.YtcogdogiceokdaaDoor
open Go.RowKit

theorem idx_neg {l : List UInt8} {c : UInt8} (h : c ∉ l) : Lib.indexByte l c = -1 := by
  have h1 := Lib.indexByte_ge l c
  by_cases e : Lib.indexByte l c = -1
  · exact e
  · obtain ⟨o, ho⟩ := Int.eq_ofNat_of_zero_le (show 0 ≤ Lib.indexByte l c by omega)
    have := (Lib.indexByte_some ho).1
    exact absurd (List.mem_of_getElem? this) h
theorem idx_pos {l : List UInt8} {c : UInt8} (h : c ∈ l) : 0 ≤ Lib.indexByte l c := by
  have h1 := Lib.indexByte_ge l c
  by_cases e : Lib.indexByte l c = -1
  · obtain ⟨k, hk⟩ := List.getElem?_of_mem h
    exact absurd hk (Lib.indexByte_none e k)
  · omega
/-- Does a byte stand in a text? -/
def stB (s : ByteArray) (b : UInt8) : Bool := decide (b ∈ s.data.toList)
theorem mem_drop {s : ByteArray} {b : UInt8} {k : Nat} (hk : k < s.size) : decide (b ∈ s.data.toList.drop k) = (decide (s[k] = b) || decide (b ∈ s.data.toList.drop (k + 1))) := by
  have hk' : k < s.data.toList.length := by simpa using hk
  rw [List.drop_eq_getElem_cons hk']
  have e : s.data.toList[k] = s[k] := by
    rw [Array.getElem_toList]; rfl
  rw [e]
  by_cases h : s[k] = b
  · simp [h]
  · simp [h, Ne.symm h]

/-- The sizes together. -/
def szs (l : List ByteArray) : Nat := (l.map (·.size)).sum
theorem szs_take {l : List ByteArray} {k : Nat} (h : k < l.length) : szs (l.take (k + 1)) = szs (l.take k) + (l.getD k ByteArray.empty).size := by
  unfold szs
  rw [List.take_succ_eq_append_getElem h, List.map_append, List.sum_append, show l.getD k ByteArray.empty = l[k] from by simp [h]]
  simp only [List.map_cons, List.map_nil, List.sum_cons, List.sum_nil, Nat.add_zero]
theorem szs_take_le (l : List ByteArray) (k : Nat) : szs (l.take k) ≤ szs l := by
  unfold szs
  conv => rhs; rw [← List.take_append_drop k l, List.map_append, List.sum_append]
  omega
theorem szs_get {l : List ByteArray} {k : Nat} (h : k < l.length) : (l.getD k ByteArray.empty).size ≤ szs l := by
  have h1 := szs_take h
  have h2 := szs_take_le l (k + 1)
  omega
def byL (l : List ByteArray) : List (List UInt8) := l.map (·.data.toList)
def joinB (l : List ByteArray) (sign : ByteArray) : ByteArray := ⟨(Lib.join (byL l) sign.data.toList).toArray⟩
/-- May they be joined? -/
def okJ (l : List ByteArray) (b : UInt8) : Bool := decide (∀ s ∈ l, stB s b = false) && decide (l.length - 1 + szs l ≤ 4000)
def joinT (l : List ByteArray) (sign : ByteArray) : ByteArray × Bool :=
  if l.length ≠ 0 ∧ sign.size = 1 ∧ okJ l (sign.data.toList.getD 0 0) = true then (joinB l sign, true) else (⟨#[]⟩, false)
theorem joinT_none {l : List ByteArray} {sign : ByteArray} (h : l.length = 0) : joinT l sign = (⟨#[]⟩, false) := by rw [joinT, if_neg (fun k => k.1 h)]
theorem joinT_sign {l : List ByteArray} {sign : ByteArray} (h : ¬ sign.size = 1) : joinT l sign = (⟨#[]⟩, false) := by rw [joinT, if_neg (fun k => h k.2.1)]
theorem joinT_bad {l : List ByteArray} {sign : ByteArray} (h0 : 0 < sign.size) (h : okJ l sign[0] = false) : joinT l sign = (⟨#[]⟩, false) := by
  rw [joinT, if_neg (fun k => by have := k.2.2; rw [getB h0, h] at this; exact absurd this (by decide))]
theorem joinT_ok {l : List ByteArray} {sign : ByteArray} (hl : l.length ≠ 0) (h1 : sign.size = 1) (h0 : 0 < sign.size) (h : okJ l sign[0] = true) : joinT l sign = (joinB l sign, true) := by
  rw [joinT, if_pos ⟨hl, h1, by rw [getB h0]; exact h⟩]
theorem okJ_stands {l : List ByteArray} {b : UInt8} {k : Nat} (hk : k < l.length) (h : stB (l.getD k ByteArray.empty) b = true) : okJ l b = false := by
  have : ¬ (∀ s ∈ l, stB s b = false) := fun hh => by
    have := hh (l.getD k ByteArray.empty) (by simp [hk])
    rw [h] at this; exact absurd this (by decide)
  rw [okJ, decide_eq_false this, Bool.false_and]
theorem okJ_long {l : List ByteArray} {b : UInt8} (h : 4000 < l.length - 1 + szs l) : okJ l b = false := by
  rw [okJ, decide_eq_false (p := l.length - 1 + szs l ≤ 4000) (by omega), Bool.and_false]
theorem okJ_true {l : List ByteArray} {b : UInt8} (h : ∀ s ∈ l, stB s b = false) (h2 : l.length - 1 + szs l ≤ 4000) : okJ l b = true := by
  rw [okJ, decide_eq_true h, decide_eq_true h2]; rfl
def AllNo (l : List ByteArray) (b : UInt8) (k : Nat) : Prop := ∀ s ∈ l.take k, stB s b = false
theorem AllNo.zero (l : List ByteArray) (b : UInt8) : AllNo l b 0 := fun s h => by simp at h
theorem AllNo.succ {l : List ByteArray} {b : UInt8} {k : Nat} (h : AllNo l b k) (hk : k < l.length) (h2 : stB (l.getD k ByteArray.empty) b = false) : AllNo l b (k + 1) := by
  intro s hs
  rw [List.take_succ_eq_append_getElem hk, List.mem_append, List.mem_singleton] at hs
  rcases hs with hs | hs
  · exact h s hs
  · subst hs; simpa [hk] using h2
theorem AllNo.all {l : List ByteArray} {b : UInt8} {k : Nat} (h : AllNo l b k) (hk : l.length ≤ k) : ∀ s ∈ l, stB s b = false := by
  intro s hs
  exact h s (by rw [List.take_of_length_le hk]; exact hs)
theorem join_snoc (xs : List (List UInt8)) (y sep : List UInt8) (h : xs ≠ []) : Lib.join (xs ++ [y]) sep = Lib.join xs sep ++ sep ++ y := by
  cases xs with
  | nil => exact absurd rfl h
  | cons x r =>
    rw [List.cons_append, Lib.join_cons, Lib.join_cons]
    simp [Lib.joinTail]
theorem join_len (l : List ByteArray) (sign : ByteArray) (h1 : sign.size = 1) (hl : l.length ≠ 0) : (Lib.join (byL l) sign.data.toList).length = l.length - 1 + szs l := by
  cases l with
  | nil => simp at hl
  | cons x r =>
    rw [byL, List.map_cons, Lib.join_length, show sign.data.toList.length = 1 from by simpa using h1]
    have e : ∀ l : List ByteArray, Lib.lens (l.map (·.data.toList)) = szs l := by
      intro l
      unfold Lib.lens szs
      rw [List.map_map]
      congr 1
    have := e (x :: r)
    rw [List.map_cons] at this
    rw [this, List.length_map, List.length_cons]
    omega
theorem joinB_size (l : List ByteArray) (sign : ByteArray) (h1 : sign.size = 1) (hl : l.length ≠ 0) : (joinB l sign).size = l.length - 1 + szs l := by
  rw [← join_len l sign h1 hl]
  simp [joinB, ByteArray.size]
theorem mk_data (s : ByteArray) : (⟨s.data.toList.toArray⟩ : ByteArray) = s := by cases s; simp
theorem joinB_one {l : List ByteArray} (sign : ByteArray) (h : 0 < l.length) : joinB (l.take (0 + 1)) sign = l.getD 0 ByteArray.empty := by
  rw [List.take_succ_eq_append_getElem h]
  simp only [List.take_zero, List.nil_append, joinB, byL, List.map_cons, List.map_nil, Lib.join_one]
  rw [mk_data]
  simp [h]
theorem joinB_more {l : List ByteArray} (sign : ByteArray) {k : Nat} (h : k < l.length) (hk : 0 < k) : joinB (l.take (k + 1)) sign = joinB (l.take k) sign ++ sign ++ l.getD k ByteArray.empty := by
  rw [List.take_succ_eq_append_getElem h]
  simp only [joinB, byL, List.map_append, List.map_cons, List.map_nil]
  rw [join_snoc _ _ _ (fun e => by have := congrArg List.length e; rw [List.length_map, List.length_take, List.length_nil] at this; omega)]
  have e : ∀ a b c : List UInt8, (⟨(a ++ b ++ c).toArray⟩ : ByteArray) = ⟨a.toArray⟩ ++ ⟨b.toArray⟩ ++ ⟨c.toArray⟩ := by
    intro a b c
    rw [ByteArray.mk_append_mk, ByteArray.mk_append_mk]
  rw [e, mk_data, mk_data, show l.getD k ByteArray.empty = l[k] from by simp [h]]
/-- A text and a bool, as results. -/
abbrev tv (m : ByteArray × Bool) : Value := .tuple #[.string m.1, .bool m.2]
theorem ret_tv {a : ByteArray} {c : Bool} {m : ByteArray × Bool} (h : m = (a, c)) : Ending.returned (.tuple #[.string a, .bool c]) = .returned (tv m) := by rw [h]

end Go.Proofs.YtcogdogiceokdaaDoor
