/- Nimbers below 16: a product is the least number that the lesser sums leave out. -/
import Derived.Test.YtoaknbeekflnaaaNimQ
import Derived.Test.YtoaknbeekflnaaaMex
namespace Go.Proofs.Ytoaknbeekflnaaa
open Go.RowKit

namespace Least
def T : Nat := 105869934573458929506328375061315679171845852290158294152364606998566138674788542437607012108590681290039201854413661647678221215878256740644142704492826533379271178812567475734100749217218550151073389438700294400309340617321998747341553871339115878427482513263866732641709495414604747141407345988080972595200
def tb (a b : Nat) : Nat := Nat.land (Nat.shiftRight T (4 * (16 * a + b))) 15
theorem tb_base : ((List.range 16).all fun a => (List.range 16).all fun b => tb a b == Nim.nm a b) = true := by decide +kernel
theorem tb_nm {a b : Nat} (ha : a < 16) (hb : b < 16) : tb a b = Nim.nm a b := by
  have h1 := List.all_eq_true.1 tb_base a (List.mem_range.2 ha)
  have h2 := List.all_eq_true.1 h1 b (List.mem_range.2 hb)
  simpa using h2
/-- The sum that x and y make. -/
def el (a b x y : Nat) : Nat := Nim.nm x b ^^^ Nim.nm a y ^^^ Nim.nm x y
def elT (a b x y : Nat) : Nat := tb x b ^^^ tb a y ^^^ tb x y
def row (a b x n : Nat) : List Nat := (List.range n).map fun y => el a b x y
def sums (a b k : Nat) : List Nat := (List.range k).flatMap fun x => row a b x b
theorem row_succ (a b x n : Nat) : row a b x (n + 1) = row a b x n ++ [el a b x n] := by simp [row, List.range_succ]
theorem sums_succ (a b k : Nat) : sums a b (k + 1) = sums a b k ++ row a b k b := by simp [sums, List.range_succ]
theorem sums_len (a b : Nat) : ∀ k, (sums a b k).length = k * b
  | 0 => by simp [sums]
  | k + 1 => by rw [sums_succ, List.length_append, sums_len a b k, row, List.length_map, List.length_range, Nat.succ_mul]
def mask (a b : Nat) : Nat := (List.range a).foldl (fun m x => (List.range b).foldl (fun m y => Nat.lor m (Nat.shiftLeft 1 (elT a b x y))) m) 0
theorem fold_bit (f : Nat → Nat) (z : Nat) : ∀ (l : List Nat) (m : Nat), (l.foldl (fun m y => Nat.lor m (Nat.shiftLeft 1 (f y))) m).testBit z = (m.testBit z || l.any fun y => f y == z)
  | [], m => by simp
  | y :: l, m => by
    rw [List.foldl_cons, fold_bit f z l]
    have e : (Nat.lor m (Nat.shiftLeft 1 (f y))).testBit z = (m.testBit z || (f y == z)) := by
      show (m ||| (1 <<< f y)).testBit z = _
      rw [Nat.testBit_or, Nat.one_shiftLeft, Nat.testBit_two_pow]
      congr 1
    rw [e, List.any_cons, Bool.or_assoc]
theorem fold2_bit (f : Nat → Nat → Nat) (b z : Nat) : ∀ (l : List Nat) (m : Nat),
    (l.foldl (fun m x => (List.range b).foldl (fun m y => Nat.lor m (Nat.shiftLeft 1 (f x y))) m) m).testBit z = (m.testBit z || l.any fun x => (List.range b).any fun y => f x y == z)
  | [], m => by simp
  | x :: l, m => by rw [List.foldl_cons, fold2_bit f b z l, fold_bit, List.any_cons, Bool.or_assoc]
theorem mask_bit {a b z : Nat} (ha : a < 16) (hb : b < 16) : (mask a b).testBit z = true ↔ z ∈ sums a b a := by
  unfold mask
  rw [fold2_bit (fun x y => elT a b x y)]
  simp only [Nat.zero_testBit, Bool.false_or, List.any_eq_true, List.mem_range, beq_iff_eq, sums, row, List.mem_flatMap, List.mem_map]
  constructor
  · rintro ⟨x, hx, y, hy, e⟩
    refine ⟨x, hx, y, hy, ?_⟩
    rw [← e, el, elT, tb_nm (by omega) hb, tb_nm ha (by omega), tb_nm (by omega) (by omega)]
  · rintro ⟨x, hx, y, hy, e⟩
    refine ⟨x, hx, y, hy, ?_⟩
    rw [← e, el, elT, tb_nm (by omega) hb, tb_nm ha (by omega), tb_nm (by omega) (by omega)]
def okT (a b : Nat) : Bool := Nat.land (mask a b) (Nat.sub (Nat.pow 2 (tb a b + 1)) 1) == Nat.sub (Nat.pow 2 (tb a b)) 1
theorem ok_base : ((List.range 16).all fun a => (List.range 16).all fun b => okT a b) = true := by decide +kernel
theorem least {a b : Nat} (ha : a < 16) (hb : b < 16) : mex ((sums a b a).map fun (n : Nat) => (n : Int)) = Nim.nm a b := by
  have h1 := List.all_eq_true.1 ok_base a (List.mem_range.2 ha)
  have h2 := List.all_eq_true.1 h1 b (List.mem_range.2 hb)
  have h3 : mask a b &&& (2 ^ (tb a b + 1) - 1) = 2 ^ tb a b - 1 := by simpa [okT] using h2
  rw [tb_nm ha hb] at h3
  have key : ∀ z, z ≤ Nim.nm a b → ((mask a b).testBit z = true ↔ z < Nim.nm a b) := by
    intro z hz
    have h4 := congrArg (fun n => n.testBit z) h3
    simp only [Nat.testBit_and, Nat.testBit_two_pow_sub_one] at h4
    rw [decide_eq_true (show z < Nim.nm a b + 1 by omega), Bool.and_true] at h4
    rw [h4, decide_eq_true_iff]
  have hm : ∀ i : Nat, ((i : Nat) : Int) ∈ (sums a b a).map (fun (n : Nat) => (n : Int)) ↔ i ∈ sums a b a := fun i => by
    simp only [List.mem_map]
    exact ⟨fun ⟨n, hn, e⟩ => by obtain rfl : n = i := by omega
                                exact hn, fun h => ⟨i, h, rfl⟩⟩
  refine mex_eq (fun i hi => (hm i).2 ((mask_bit ha hb).1 ((key i (by omega)).2 hi))) (fun h => ?_)
  have := (key _ (Nat.le_refl _)).1 ((mask_bit ha hb).2 ((hm _).1 h))
  omega
end Least
end Go.Proofs.Ytoaknbeekflnaaa
