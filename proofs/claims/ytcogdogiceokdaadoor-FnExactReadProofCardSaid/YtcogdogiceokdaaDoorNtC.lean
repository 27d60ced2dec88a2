/- Seals: the text with its checksum, by the program and by the reference; the walk of the law on SealText. -/
import Derived.Test.YtcogdogiceokdaaDoorNtB
namespace Go.Proofs.YtcogdogiceokdaaDoor
open Go.RowKit

/-- A text, '#', and its checksum. -/
def sealB (s : ByteArray) : ByteArray := s ++ ⟨#[35]⟩ ++ strOfNums (numB (sumFrom 5 s.data.toList))
theorem sum_bd (s : ByteArray) : 0 ≤ sumFrom 5 s.data.toList ∧ sumFrom 5 s.data.toList < 999983 := sumFrom_bd _ 5 (by omega) (by omega)
theorem sum_len (s : ByteArray) : (numB (sumFrom 5 s.data.toList)).length ≤ 14 := numB_len (by have := sum_bd s; omega) (by have := sum_bd s; omega)
theorem sealB_size (s : ByteArray) : (sealB s).size = s.size + 1 + (numB (sumFrom 5 s.data.toList)).length := by
  unfold sealB
  rw [ByteArray.size_append, ByteArray.size_append, strOfNums_size]
  rfl
def sealT (s : ByteArray) : ByteArray × Bool := if s.size ≤ 4000 ∧ stB s 35 = false ∧ (sealB s).size ≤ 4000 then (sealB s, true) else (ByteArray.empty, false)
theorem sealT_no {s : ByteArray} (h : ¬ (s.size ≤ 4000 ∧ stB s 35 = false ∧ (sealB s).size ≤ 4000)) : sealT s = (ByteArray.empty, false) := if_neg h
theorem sealT_yes {s : ByteArray} (h1 : s.size ≤ 4000) (h2 : stB s 35 = false) (h3 : (sealB s).size ≤ 4000) : sealT s = (sealB s, true) := if_pos ⟨h1, h2, h3⟩
end Go.Proofs.YtcogdogiceokdaaDoor
