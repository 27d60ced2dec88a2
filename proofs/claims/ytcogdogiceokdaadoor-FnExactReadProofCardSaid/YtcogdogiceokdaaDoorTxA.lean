/- Texts: comparing two, the checksum. -/
import Derived.Test.YtcogdogiceokdaaDoorGen
import Derived.Handy
namespace Go.Proofs.YtcogdogiceokdaaDoor
open Go.RowKit


/-- The checksum of a list of bytes. -/
def sumFrom (h : Int) : List UInt8 → Int
  | [] => h
  | c :: r => sumFrom ((37 * h + (c.toNat : Int) + 1) % 999983) r
def sumV (s : ByteArray) : Int × Bool := if s.size ≤ 4000 then (sumFrom 5 s.data.toList, true) else (0, false)
theorem sumFrom_at {h : Int} {s : ByteArray} {k : Nat} (hk : k < s.size) : sumFrom h (s.data.toList.drop k) = sumFrom ((37 * h + (s[k].toNat : Int) + 1) % 999983) (s.data.toList.drop (k + 1)) := by
  rw [List.drop_eq_getElem_cons (by simpa using hk)]
  rfl
theorem sumFrom_bd : ∀ (l : List UInt8) (h : Int), 0 ≤ h → h < 999983 → 0 ≤ sumFrom h l ∧ sumFrom h l < 999983
  | [], _, h0, h1 => ⟨h0, h1⟩
  | c :: r, h, _, _ => sumFrom_bd r _ (Int.emod_nonneg _ (by decide)) (Int.emod_lt_of_pos _ (by decide))
theorem ret_iv {a : Int} {c : Bool} {m : Int × Bool} (h : m = (a, c)) : Ending.returned (.tuple #[.int .i64 a, .bool c]) = .returned (.tuple #[.int .i64 m.1, .bool m.2]) := by rw [h]
end Go.Proofs.YtcogdogiceokdaaDoor
