/- Opening a sealed text, by the program and by the reference; the walk of the law on OpenText. -/
import Derived.Test.YtcogdogiceokdaaDoorNtC
namespace Go.Proofs.YtcogdogiceokdaaDoor
open Go.RowKit

/-- What stands ahead of the first '#'; all of it, where there is none. -/
def headB (s : ByteArray) : ByteArray := if Lib.indexByte s.data.toList 35 < 0 then s else s.extract 0 (Lib.indexByte s.data.toList 35).toNat
theorem extract_all (s : ByteArray) : s.extract 0 s.size = s := by
  apply ByteArray.ext
  simp
theorem parts_none {s : ByteArray} {b : UInt8} : ∀ {k : Nat}, k ≤ s.size → (∀ j, j < k → s.data.toList[j]? ≠ some b) → partsTo s b k = ([], 0)
  | 0, _, _ => rfl
  | k + 1, hk, h => by
    have h1 := h k (by omega)
    have hk' : k < s.data.toList.length := by
      have e : s.data.toList.length = s.size := by simp
      omega
    rw [partsTo, if_neg, parts_none (by omega) (fun j hj => h j (by omega))]
    rw [List.getD_eq_getElem?_getD, List.getElem?_eq_getElem hk']
    rw [List.getElem?_eq_getElem hk'] at h1
    simpa using h1
theorem parts_head {s : ByteArray} {b : UInt8} {o : Nat} (ho : s.data.toList[o]? = some b) (hb : ∀ j, j < o → s.data.toList[j]? ≠ some b) (hos : o < s.size) :
    ∀ k, ∃ rest, (partsTo s b (o + 1 + k)).1 = s.extract 0 o :: rest
  | 0 => ⟨[], by
    rw [Nat.add_zero, partsTo, if_pos, parts_none (by omega) hb]
    · rfl
    · rw [List.getD_eq_getElem?_getD, ho]; rfl⟩
  | k + 1 => by
    obtain ⟨rest, h⟩ := parts_head ho hb hos k
    rw [← Nat.add_assoc, partsTo]
    split
    · exact ⟨rest ++ _, by rw [h]; rfl⟩
    · exact ⟨rest, h⟩
theorem idx_lt {s : ByteArray} {o : Nat} {b : UInt8} (h : s.data.toList[o]? = some b) : o < s.size := by
  have := (List.getElem?_eq_some_iff.1 h).1
  simpa using this
theorem str_ne {a b : ByteArray} (h : ¬ a = b) : (a.toList == b.toList) = false := by
  rw [beq_eq_false_iff_ne, ByteArray.toList_eq, ByteArray.toList_eq]
  intro e
  exact h (ByteArray.ext (Array.toList_inj.1 e))
theorem head_eq (s : ByteArray) : (splitL s 35).getD 0 ByteArray.empty = headB s := by
  have hge := Lib.indexByte_ge s.data.toList 35
  by_cases h : Lib.indexByte s.data.toList 35 < 0
  · have h1 : Lib.indexByte s.data.toList 35 = -1 := by omega
    rw [headB, if_pos h, splitL, parts_none (Nat.le_refl _) (fun j _ => Lib.indexByte_none h1 j)]
    exact extract_all s
  · obtain ⟨o, ho⟩ := Int.eq_ofNat_of_zero_le (show 0 ≤ Lib.indexByte s.data.toList 35 by omega)
    obtain ⟨h1, h2⟩ := Lib.indexByte_some ho
    have hlt := idx_lt h1
    obtain ⟨rest, hr⟩ := parts_head h1 h2 hlt (s.size - (o + 1))
    rw [show o + 1 + (s.size - (o + 1)) = s.size by omega] at hr
    rw [headB, if_neg h, splitL, hr, ho]
    rfl
theorem head_size (s : ByteArray) : (headB s).size ≤ s.size := by
  unfold headB
  split
  · exact Nat.le_refl _
  · simp [ByteArray.size_extract]; omega
theorem splitL_pos (s : ByteArray) (b : UInt8) : 0 < (splitL s b).length := by rw [splitL, List.length_append]; simp
def openT (s : ByteArray) : ByteArray × Bool := if s.size ≤ 4000 ∧ sealB (headB s) = s then (headB s, true) else (ByteArray.empty, false)
theorem openT_no {s : ByteArray} (h : ¬ (s.size ≤ 4000 ∧ sealB (headB s) = s)) : openT s = (ByteArray.empty, false) := if_neg h
theorem openT_yes {s : ByteArray} (h : s.size ≤ 4000) (h2 : sealB (headB s) = s) : openT s = (headB s, true) := if_pos ⟨h, h2⟩
theorem stB_head {s : ByteArray} {o : Nat} (h2 : ∀ j, j < o → s.data.toList[j]? ≠ some 35) : stB (s.extract 0 o) 35 = false := by
  unfold stB
  rw [decide_eq_false_iff_not]
  intro h
  obtain ⟨j, hj⟩ := List.mem_iff_getElem?.1 h
  have e : (s.extract 0 o).data.toList = s.data.toList.take o := by simp [ByteArray.data_extract]
  rw [e, List.getElem?_take] at hj
  split at hj
  · exact h2 j (by assumption) hj
  · simp at hj
end Go.Proofs.YtcogdogiceokdaaDoor
