/- Piles: the plain law of a winning move. -/
import Derived.Test.YtoaknbeekflnaaaNimE
namespace Go.Proofs.Ytoaknbeekflnaaa
open Go.RowKit

namespace Pl
def cs (ns : List Nat) : List Int := ns.map fun (n : Nat) => (n : Int)
def xN (acc : Nat) : List Nat → Nat
  | [] => acc
  | n :: r => xN (acc ^^^ n) r
theorem xN_acc : ∀ (ns : List Nat) (a b : Nat), xN (a ^^^ b) ns = a ^^^ xN b ns
  | [], _, _ => rfl
  | n :: r, a, b => by
    show xN (a ^^^ b ^^^ n) r = a ^^^ xN (b ^^^ n) r
    rw [Nat.xor_assoc, xN_acc r a (b ^^^ n)]
theorem xN_set : ∀ (ns : List Nat) (i : Nat) (y a : Nat), i < ns.length → xN a (ns.set i y) = xN a ns ^^^ (ns.getD i 0 ^^^ y)
  | [], _, _, _, h => by simp at h
  | n :: r, 0, y, a, _ => by
    show xN (a ^^^ y) r = xN (a ^^^ n) r ^^^ (n ^^^ y)
    have e : a ^^^ y = (n ^^^ y) ^^^ (a ^^^ n) := by
      rw [Nat.xor_comm n y, Nat.xor_assoc, ← Nat.xor_assoc n a n, Nat.xor_comm n a, Nat.xor_assoc a n n, Nat.xor_self, Nat.xor_zero, Nat.xor_comm]
    rw [e, xN_acc, Nat.xor_comm]
  | n :: r, i + 1, y, a, h => by
    show xN (a ^^^ n) (r.set i y) = xN (a ^^^ n) r ^^^ (r.getD i 0 ^^^ y)
    exact xN_set r i y (a ^^^ n) (by simpa using h)
theorem xN_lt : ∀ (ns : List Nat) (a : Nat), a < 256 → (∀ n ∈ ns, n < 256) → xN a ns < 256
  | [], a, h, _ => h
  | n :: r, a, h, hn => xN_lt r (a ^^^ n) (Nat.xor_lt_two_pow (n := 8) h (hn n (by simp))) fun m hm => hn m (by simp [hm])
theorem pv_nat : ∀ (ns : List Nat) (a : Nat), a < 256 → (∀ n ∈ ns, n < 256) → pv (a : Int) (cs ns) = ((xN a ns : Nat) : Int)
  | [], a, _, _ => rfl
  | n :: r, a, ha, hn => by
    have h1 := hn n (by simp)
    show pv (a : Int) ((n : Int) :: cs r) = _
    unfold pv
    rw [inB_true.2 ⟨by omega, by omega⟩, if_pos rfl, xor_nat (by omega) (by omega) (by omega) (by omega)]
    simp only [Int.toNat_natCast]
    exact pv_nat r (a ^^^ n) (Nat.xor_lt_two_pow (n := 8) ha h1) fun m hm => hn m (by simp [hm])
theorem to_nat : ∀ (xs : List Int), (∀ x ∈ xs, 0 ≤ x ∧ x ≤ 255) → ∃ ns, xs = cs ns ∧ ∀ n ∈ ns, n < 256
  | [], _ => ⟨[], rfl, fun _ h => by simp at h⟩
  | x :: r, h => by
    obtain ⟨ns, e, hn⟩ := to_nat r fun y hy => h y (by simp [hy])
    have hx := h x (by simp)
    refine ⟨x.toNat :: ns, by simp [cs] at e ⊢; exact ⟨by omega, e⟩, fun n hm => ?_⟩
    rcases List.mem_cons.1 hm with rfl | hm
    · omega
    · exact hn n hm
theorem no_bit (j : Nat) : ∀ (ns : List Nat) (a : Nat), a.testBit j = false → (∀ n ∈ ns, n.testBit j = false) → (xN a ns).testBit j = false
  | [], _, h, _ => h
  | n :: r, a, h, hn => no_bit j r (a ^^^ n) (by rw [Nat.testBit_xor, h, hn n (by simp)]; rfl) fun m hm => hn m (by simp [hm])
theorem top_less {j v x : Nat} (h1 : 2 ^ j ≤ v) (h2 : v < 2 ^ (j + 1)) (hx : x.testBit j = true) : x ^^^ v < x := by
  have hd : (x ^^^ v) / 2 ^ j = (x / 2 ^ j) ^^^ (v / 2 ^ j) := by
    have := Nat.shiftRight_xor_distrib (a := x) (b := v) (i := j)
    simpa [Nat.shiftRight_eq_div_pow] using this
  have hv : v / 2 ^ j = 1 := by
    rw [Nat.pow_succ] at h2
    have h3 : v / 2 ^ j < 2 := (Nat.div_lt_iff_lt_mul (Nat.two_pow_pos j)).2 (by omega)
    have h4 : 1 ≤ v / 2 ^ j := (Nat.le_div_iff_mul_le (Nat.two_pow_pos j)).2 (by omega)
    omega
  have hodd : x / 2 ^ j % 2 = 1 := by
    rw [Nat.testBit_eq_decide_div_mod_eq] at hx
    simpa using hx
  have h1x : (x / 2 ^ j) ^^^ 1 = x / 2 ^ j - 1 := by
    have e1 : ((x / 2 ^ j) ^^^ 1) / 2 = (x / 2 ^ j) / 2 := by rw [Nat.xor_div_two]; simp
    have e2 : ((x / 2 ^ j) ^^^ 1) % 2 = 0 := by
      have : ((x / 2 ^ j) ^^^ 1) % 2 = (x / 2 ^ j % 2) ^^^ (1 % 2) := Nat.xor_mod_two_pow (n := 1)
      rw [this, hodd]; rfl
    omega
  rw [hv, h1x] at hd
  have h5 := Nat.div_add_mod (x ^^^ v) (2 ^ j)
  have h6 := Nat.mod_lt (x ^^^ v) (Nat.two_pow_pos j)
  have h7 := Nat.div_add_mod x (2 ^ j)
  rw [hd] at h5
  have h8 : 2 ^ j * (x / 2 ^ j - 1) + 2 ^ j = 2 ^ j * (x / 2 ^ j) := by
    have hk1 : 1 ≤ x / 2 ^ j := by
      rcases Nat.eq_zero_or_pos (x / 2 ^ j) with h | h
      · rw [h] at hodd; exact absurd hodd (by decide)
      · exact h
    generalize x / 2 ^ j = q at hk1 ⊢
    obtain ⟨k, rfl⟩ : ∃ k, q = k + 1 := ⟨q - 1, by omega⟩
    rw [Nat.add_sub_cancel, Nat.mul_succ]
  generalize 2 ^ j * (x / 2 ^ j - 1) = a at *
  generalize 2 ^ j * (x / 2 ^ j) = b at *
  omega
theorem some_move (ns : List Nat) (v : Nat) (hv : xN 0 ns = v) (h0 : 0 < v) : ∃ x ∈ ns, x ^^^ v < x := by
  have h1 : 2 ^ v.log2 ≤ v := Nat.log2_self_le (by omega)
  have h2 : v < 2 ^ (v.log2 + 1) := Nat.lt_log2_self
  have hb : v.testBit v.log2 = true := by
    rw [Nat.testBit_eq_decide_div_mod_eq]
    have h3 : v / 2 ^ v.log2 < 2 := (Nat.div_lt_iff_lt_mul (Nat.two_pow_pos _)).2 (by rw [Nat.pow_succ] at h2; omega)
    have h4 : 1 ≤ v / 2 ^ v.log2 := (Nat.le_div_iff_mul_le (Nat.two_pow_pos _)).2 (by omega)
    have : v / 2 ^ v.log2 = 1 := by omega
    rw [this]; rfl
  by_cases h : ∃ x ∈ ns, x.testBit v.log2 = true
  · obtain ⟨x, hx, hxb⟩ := h
    exact ⟨x, hx, top_less h1 h2 hxb⟩
  · have := no_bit v.log2 ns 0 (by simp) fun n hn => by
      cases e : n.testBit v.log2
      · rfl
      · exact absurd ⟨n, hn, e⟩ h
    rw [hv, hb] at this
    exact absurd this (by decide)
theorem pm_some (v : Nat) (hv : v < 256) : ∀ (ns : List Nat) (k : Nat), (∀ n ∈ ns, n < 256) → (∃ x ∈ ns, x ^^^ v < x) →
    ∃ i, i < ns.length ∧ pm (v : Int) k (cs ns) = (((k + i : Nat) : Int), ((ns.getD i 0 ^^^ v : Nat) : Int), true) ∧ ns.getD i 0 ^^^ v < ns.getD i 0
  | [], _, _, h => by obtain ⟨x, hx, _⟩ := h; simp at hx
  | n :: r, k, hn, h => by
    have h1 := hn n (by simp)
    have e : bits .xor .i64 (n : Int) (v : Int) = ((n ^^^ v : Nat) : Int) := by
      rw [xor_nat (by omega) (by omega) (by omega) (by omega)]; simp
    show ∃ i, i < (n :: r).length ∧ pm (v : Int) k ((n : Int) :: cs r) = _ ∧ _
    unfold pm
    rw [e]
    by_cases hlt : n ^^^ v < n
    · rw [if_pos (by omega)]
      exact ⟨0, by simp, rfl, hlt⟩
    · rw [if_neg (by omega)]
      obtain ⟨i, hi, hp, hl⟩ := pm_some v hv r (k + 1) (fun m hm => hn m (by simp [hm])) (by
        obtain ⟨x, hx, hxl⟩ := h
        rcases List.mem_cons.1 hx with rfl | hx
        · exact absurd hxl hlt
        · exact ⟨x, hx, hxl⟩)
      refine ⟨i + 1, by simpa using hi, ?_, hl⟩
      rw [hp, show k + 1 + i = k + (i + 1) from by omega]
      rfl
theorem piles_nat {ns : List Nat} (hl : ns.length ≤ 300) (h : ∀ n ∈ ns, n < 256) : fPiles (cs ns) = ((xN 0 ns : Nat) : Int) := by
  unfold fPiles
  rw [if_pos (by simpa [cs] using hl)]
  exact pv_nat ns 0 (by omega) h
theorem cs_set (ns : List Nat) (i y : Nat) : (cs ns).set i (y : Int) = cs (ns.set i y) := by simp [cs, List.map_set]
theorem cs_getD (ns : List Nat) (i : Nat) : (cs ns).getD i 0 = ((ns.getD i 0 : Nat) : Int) := by
  simp only [cs, List.getD_eq_getElem?_getD, List.getElem?_map]
  cases ns[i]? <;> simp
theorem set_mem {ns : List Nat} {i y : Nat} (h : ∀ n ∈ ns, n < 256) (hy : y < 256) : ∀ n ∈ ns.set i y, n < 256 := fun n hn => by
  rcases List.mem_or_eq_of_mem_set hn with h1 | h1
  · exact h n h1
  · omega
end Pl
open Pl
/-- No move of a pile leads from the value 0 to it. -/
theorem piles_zero {xs : List Int} (h : fPiles xs = 0) {p : Nat} (hp : p < xs.length) {y : Int} (h0 : 0 ≤ y) (hy : y < xs.getD p 0) : 0 < fPiles (xs.set p y) := by
  obtain ⟨hl, hr⟩ := piles_range (xs := xs) (by omega)
  obtain ⟨ns, rfl, hn⟩ := to_nat xs hr
  obtain ⟨y, rfl⟩ := Int.eq_ofNat_of_zero_le h0
  have hl' : ns.length ≤ 300 := by simpa [cs] using hl
  have hp' : p < ns.length := by simpa [cs] using hp
  rw [cs_getD] at hy
  have hpn := hn (ns.getD p 0) (by simp [hp'])
  rw [piles_nat hl' hn] at h
  rw [cs_set, piles_nat (by simpa using hl') (set_mem hn (by omega)), xN_set ns p y 0 hp', show xN 0 ns = 0 from by omega, Nat.zero_xor]
  have : ns.getD p 0 ^^^ y ≠ 0 := fun e => by
    have h1 : ns.getD p 0 = y := by
      have h2 : (ns.getD p 0 ^^^ y) ^^^ y = ns.getD p 0 := by rw [Nat.xor_assoc, Nat.xor_self, Nat.xor_zero]
      rw [e, Nat.zero_xor] at h2
      exact h2.symm
    omega
  omega
/-- Where the value is greater there is a move to 0. -/
theorem piles_pos {xs : List Int} (h : 0 < fPiles xs) : ∃ (i : Nat) (left : Int), i < xs.length ∧ fMove xs = ((i : Int), left, true) ∧ 0 ≤ left ∧ left < xs.getD i 0 ∧ fPiles (xs.set i left) = 0 := by
  obtain ⟨hl, hr⟩ := piles_range (xs := xs) (by omega)
  obtain ⟨ns, rfl, hn⟩ := to_nat xs hr
  have hl' : ns.length ≤ 300 := by simpa [cs] using hl
  have hv := piles_nat hl' hn
  obtain ⟨v, ev⟩ : ∃ v, xN 0 ns = v := ⟨_, rfl⟩
  rw [ev] at hv
  have hv256 : v < 256 := by rw [← ev]; exact xN_lt ns 0 (by omega) hn
  obtain ⟨i, hi, hp, hlt⟩ := pm_some v hv256 ns 0 hn (some_move ns v ev (by omega))
  refine ⟨i, ((ns.getD i 0 ^^^ v : Nat) : Int), by simpa [cs] using hi, ?_, by omega, by rw [cs_getD]; omega, ?_⟩
  · unfold fMove
    rw [if_pos (by omega), hv, hp, Nat.zero_add]
  · have hin := hn (ns.getD i 0) (by simp [hi])
    rw [cs_set, piles_nat (by simpa using hl') (set_mem hn (by omega)), xN_set ns i _ 0 hi, ev, ← Nat.xor_assoc (ns.getD i 0), Nat.xor_self, Nat.zero_xor, Nat.xor_self]
    rfl
end Go.Proofs.Ytoaknbeekflnaaa
