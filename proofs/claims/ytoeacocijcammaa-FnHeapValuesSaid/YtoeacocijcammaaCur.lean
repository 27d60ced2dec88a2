/- The cursor that the reference's draws read choices from: what next, pick, one and among hand back. -/
import Derived.Test.YtoeacocijcammaaMem
import Derived.Handy
import Derived.OpenShut
namespace Go.Proofs.Ytoeacocijcammaa
open Go.RowKit

/-- Block g is a cursor over the bytes bs; it has read at most m. -/
def Cur (w : World) (g : Nat) (A : Option Addr) (n c : Nat) (bs : List Int) (m : Int) : Prop :=
  (∃ at' seed : Int, w.heap[g]? = some (.cells #[.slice A n c, .int .i64 at', .int .u64 seed] 55 (0, 0)) ∧ 0 ≤ at' ∧ at' ≤ m ∧ (Lit.int .u64 seed).wf = true) ∧
    RdV w A n (bs.map (Value.int .u8)) ∧ Fits .u8 bs ∧ (0 < n → ∀ b off, A = some ⟨b, off, none⟩ → b ≠ g)

theorem blk_set {w : World} {g : Nat} {t : TypeId} {cs : Array Value} (h : w.heap[g]? = some (.cells cs t (0, 0))) (i : Nat) (u : Value) :
    (w.setCell ⟨g, i, none⟩ u).heap[g]? = some (.cells (cs.setIfInBounds i u) t (0, 0)) := by
  simp [World.setCell, Array.getElem?_modify, h]
theorem grown_drewN {a w : World} {row : Option Nat} (h : a.grownBy w row) (n : Nat) : a.grownBy (w.drewN n) row := ⟨h.os, h.tape, h.output, h.size, h.block⟩
theorem grown_set {a w : World} {g : Nat} (h : a.grownBy w (some g)) (i : Nat) (u : Value) : a.grownBy (w.setCell ⟨g, i, none⟩ u) (some g) :=
  ⟨h.os, h.tape, h.output, by simpa [World.setCell] using h.size, fun k hk hne => (Below.heap_setCell w _ u k (by rintro rfl; exact hne rfl)).trans (h.block k hk hne)⟩
theorem RdV.grown {w w' : World} {A : Option Addr} {n g : Nat} {xs : List Value} (h : RdV w A n xs) (hne : 0 < n → ∀ b off, A = some ⟨b, off, none⟩ → b ≠ g) (hg : w.grownBy w' (some g)) : RdV w' A n xs := by
  refine ⟨h.1, fun hn => ?_⟩
  obtain ⟨b, off, hA, hb, hc⟩ := h.at_ hn
  exact ⟨b, off, hA, fun i u hu => (World.cell?_of_block (a := ⟨b, off + i, none⟩) (hg.block b hb (fun e => hne hn b off hA (by injection e)))).trans (hc i u hu)⟩
theorem fits_u8 {bs : List Int} (h : Fits .u8 bs) {x : Int} (hx : x ∈ bs) : 0 ≤ x ∧ x ≤ 255 := by
  exact bounds_u8 (h x hx)
theorem and255 (x : Int) : 0 ≤ wrap64 (bits .and .u64 (IntKind.u64.wrap x / 1099511627776) 255) ∧ wrap64 (bits .and .u64 (IntKind.u64.wrap x / 1099511627776) 255) ≤ 255 := by
  have h0 : 0 ≤ IntKind.u64.wrap x ∧ IntKind.u64.wrap x < 18446744073709551616 := by
    rw [IntKind.wrap_u64]
    exact ⟨Int.emod_nonneg _ (by decide), Int.emod_lt_of_pos _ (by decide)⟩
  generalize IntKind.u64.wrap x = y at *
  rw [u64_and _ _ (by omega) (by omega) (by decide) (by decide)]
  have : (y / 1099511627776).toNat &&& (255 : Int).toNat ≤ 255 := Nat.and_le_right
  generalize (y / 1099511627776).toNat &&& (255 : Int).toNat = z at *
  rw [IntWalk.wrap64_in _ ⟨by omega, by omega⟩]
  omega
def NextP (w : World) (g : Nat) (A : Option Addr) (n c : Nat) (bs : List Int) (m hi : Int) (e : Ending) (w' : World) : Prop :=
  ∃ x : Int, e = .returned (.int .i64 x) ∧ 0 ≤ x ∧ x ≤ hi ∧ Cur w' g A n c bs m ∧ w.grownBy w' (some g)

set_option maxHeartbeats 2000000 in
theorem c_next (g : Nat) (A : Option Addr) (n c : Nat) (bs : List Int) (m : Int) (w : World) (hc : Cur w g A n c bs m) (hm : m ≤ 1099511627776) (hn : n ≤ 1099511627776) :
    Calls Try.prog 65 #[.pointer (some ⟨g, 0, none⟩)] w (NextP w g A n c bs (m + 1) 255) := by
  obtain ⟨⟨at', seed, hb, a0, a1, hs⟩, hr, hf, hne⟩ := hc
  have k0 : w.cell? ⟨g, 0, none⟩ = some (.slice A n c) := by simp [World.cell?, hb]
  have k1 : w.cell? ⟨g, 1, none⟩ = some (.int .i64 at') := by simp [World.cell?, hb]
  have k2 : w.cell? ⟨g, 2, none⟩ = some (.int .u64 seed) := by simp [World.cell?, hb]
  have f1 : ∀ o, w.frozen? ⟨g, o, none⟩ = false := fun o => by simp [World.frozen?, hb]
  have Hb := Lib.hid hb
  clear hb
  by_cases hlt : at' < n
  · obtain ⟨k, rfl⟩ := Int.eq_ofNat_of_zero_le a0
    obtain ⟨b, off, rfl, hbl, hcell⟩ := hr.at_ (k := k) (by omega)
    have hkl : k < bs.length := by have := hr.len; simp at this; omega
    obtain ⟨x, hx0, hx1, hcx⟩ : ∃ x : Int, 0 ≤ x ∧ x ≤ 255 ∧ w.cell? ⟨b, off + k, none⟩ = some (.int .u8 x) :=
      ⟨bs[k], (fits_u8 hf (List.getElem_mem hkl)).1, (fits_u8 hf (List.getElem_mem hkl)).2, hcell k _ (by simp [List.getElem?_eq_getElem hkl])⟩
    clear hcell
    go_enter Try.func65, Try.ntmps65
    go_wp2_with fail
    go_quiet (fail)
    go_wp2_with fail
    go_quiet (fail)
    go_wp2_with fail
    go_quiet (fail)
    go_wp2_with fail
    refine bodyPost_ret (results_tmp rfl _ _ _) rfl ⟨x, rfl, hx0, hx1, ⟨⟨_, _, blk_set (blk_set Hb.out 1 _) 2 _, ?_, ?_, wf_wrap _ _⟩, ?_, hf, hne⟩, ?_⟩
    · omega
    · omega
    · exact hr.grown hne (by repeat (first | exact World.grownBy.refl _ _ | apply grown_drewN | apply grown_set))
    · repeat (first | exact World.grownBy.refl _ _ | apply grown_drewN | apply grown_set)
  · go_enter Try.func65, Try.ntmps65
    go_wp2_with fail
    go_quiet (fail)
    go_wp2_with fail
    go_quiet (fail)
    go_wp2_with fail
    obtain ⟨r0, r1⟩ := and255 (IntKind.u64.wrap (IntKind.u64.wrap (seed * 6364136223846793005)) + 868868)
    refine bodyPost_ret (results_tmp rfl _ _ _) rfl ⟨_, rfl, r0, r1, ⟨⟨_, _, blk_set (blk_set Hb.out 1 _) 2 _, ?_, ?_, wf_wrap _ _⟩, ?_, hf, hne⟩, ?_⟩
    · omega
    · omega
    · exact hr.grown hne (by repeat (first | exact World.grownBy.refl _ _ | apply grown_drewN | apply grown_set))
    · repeat (first | exact World.grownBy.refl _ _ | apply grown_drewN | apply grown_set)

/-- The way from one world to a later one in which only block g, and what is new, has turned. -/
theorem grown_trans {a b c : World} {g : Nat} (h : a.grownBy b (some g)) (k : b.grownBy c (some g)) : a.grownBy c (some g) :=
  ⟨k.os.trans h.os, k.tape.trans h.tape, k.output.trans h.output, Nat.le_trans h.size k.size, fun i hi hne => (k.block i (Nat.lt_of_lt_of_le hi h.size) hne).trans (h.block i hi hne)⟩
theorem Cur.more {w : World} {g : Nat} {A : Option Addr} {n c : Nat} {bs : List Int} {m m' : Int} (h : Cur w g A n c bs m) (hm : m ≤ m') : Cur w g A n c bs m' := by
  obtain ⟨⟨at', seed, hb, a0, a1, hs⟩, h2⟩ := h
  exact ⟨⟨at', seed, hb, a0, by omega, hs⟩, h2⟩
theorem Cur.lt {w : World} {g : Nat} {A : Option Addr} {n c : Nat} {bs : List Int} {m : Int} (h : Cur w g A n c bs m) : g < w.heap.size := by
  obtain ⟨⟨at', seed, hb, _⟩, _⟩ := h
  obtain ⟨hlt, _⟩ := Array.getElem?_eq_some_iff.1 hb
  exact hlt
theorem Cur.below {w w' : World} {g : Nat} {A : Option Addr} {n c : Nat} {bs : List Int} {m : Int} (h : Cur w g A n c bs m) (hb : Below w.heap.size w w') : Cur w' g A n c bs m := by
  have hlt := h.lt
  obtain ⟨⟨at', seed, hh, r⟩, hr, hf, hne⟩ := h
  exact ⟨⟨at', seed, (hb.block g hlt).trans hh, r⟩, hr.below hb, hf, hne⟩
theorem Cur.pos {w : World} {g : Nat} {A : Option Addr} {n c : Nat} {bs : List Int} {m : Int} (h : Cur w g A n c bs m) : 0 ≤ m := by
  obtain ⟨⟨at', seed, hb, a0, a1, hs⟩, _⟩ := h
  omega
/-- A number from 0 to N - 1. -/
theorem c_pick (N : Int) (g : Nat) (A : Option Addr) (n c : Nat) (bs : List Int) (m : Int) (w : World) (hc : Cur w g A n c bs m) (hm : m ≤ 1000000000000) (hn : n ≤ 1099511627776) (hN : N ≤ 1000000000000) (hN0 : 1 ≤ N) :
    Calls Try.prog 46 #[.pointer (some ⟨g, 0, none⟩), .int .i64 N] w (NextP w g A n c bs (m + 2) (N - 1)) := by
  by_cases h1 : N ≤ 1
  · obtain rfl : N = 1 := by omega
    go_enter Try.func46, Try.ntmps46
    go_wp2_with fail
    exact bodyPost_ret (results_tmp rfl _ _ _) rfl ⟨0, rfl, by omega, by omega, hc.more (by omega), World.grownBy.refl _ _⟩
  · by_cases h2 : N ≤ 200
    · go_enter Try.func46, Try.ntmps46
      go_wp2_with fail
      refine (c_next g A n c bs m _ hc (by omega) hn).mono ?_
      rintro e w1 ⟨x, rfl, x0, x1, hc1, gr⟩
      have hmod0 : 0 ≤ x % N := Int.emod_nonneg _ (by omega)
      have hmod1 : x % N < N := Int.emod_lt_of_pos _ (by omega)
      go_wp2_with fail
      exact bodyPost_ret (results_tmp rfl _ _ _) rfl ⟨x % N, rfl, hmod0, by omega, hc1.more (by omega), gr⟩
    · go_enter Try.func46, Try.ntmps46
      go_wp2_with fail
      refine (c_next g A n c bs m _ hc (by omega) hn).mono ?_
      rintro e w1 ⟨x, rfl, x0, x1, hc1, gr⟩
      go_wp2_with fail
      refine (c_next g A n c bs (m + 1) _ hc1 (by omega) hn).mono ?_
      rintro e w2 ⟨y, rfl, y0, y1, hc2, gr2⟩
      have hmod0 : 0 ≤ (x * 256 + y) % N := Int.emod_nonneg _ (by omega)
      have hmod1 : (x * 256 + y) % N < N := Int.emod_lt_of_pos _ (by omega)
      go_wp2_with fail
      exact bodyPost_ret (results_tmp rfl _ _ _) rfl ⟨(x * 256 + y) % N, rfl, hmod0, by omega, hc2.more (by omega), grown_trans gr gr2⟩
def BoolP (w : World) (g : Nat) (A : Option Addr) (n c : Nat) (bs : List Int) (m : Int) (e : Ending) (w' : World) : Prop :=
  ∃ x : Bool, e = .returned (.bool x) ∧ Cur w' g A n c bs m ∧ w.grownBy w' (some g)
theorem c_one (N : Int) (g : Nat) (A : Option Addr) (n c : Nat) (bs : List Int) (m : Int) (w : World) (hc : Cur w g A n c bs m) (hm : m ≤ 1000000000000) (hn : n ≤ 1099511627776) (hN : N ≤ 1000000000000) (hN0 : 1 ≤ N) :
    Calls Try.prog 64 #[.pointer (some ⟨g, 0, none⟩), .int .i64 N] w (BoolP w g A n c bs (m + 2)) := by
  go_enter Try.func64, Try.ntmps64
  go_wp2_with fail
  refine (c_pick N g A n c bs m _ hc hm hn hN hN0).mono ?_
  rintro e w1 ⟨x, rfl, x0, x1, hc1, gr⟩
  go_wp2_with fail
  exact bodyPost_ret (results_tmp rfl _ _ _) rfl ⟨x == 0, rfl, hc1, gr⟩
/-- One of some numbers. -/
def AmongP (w : World) (g : Nat) (A : Option Addr) (n c : Nat) (bs : List Int) (m : Int) (xs : List Int) (e : Ending) (w' : World) : Prop :=
  ∃ x : Int, e = .returned (.int .i64 x) ∧ x ∈ xs ∧ Cur w' g A n c bs m ∧ w.grownBy w' (some g)
theorem c_among (B : Option Addr) (c' : Nat) (xs : List Int) (hxs : 0 < xs.length) (hl : xs.length ≤ 100000000)
    (g : Nat) (hB : ∀ b off, B = some ⟨b, off, none⟩ → b ≠ g) (A : Option Addr) (n c : Nat) (bs : List Int) (m : Int) (w : World) (hr : RdI w B xs.length xs) (hc : Cur w g A n c bs m) (hm : m ≤ 1000000000000) (hn : n ≤ 1099511627776) :
    Calls Try.prog 45 #[.pointer (some ⟨g, 0, none⟩), .slice B xs.length c'] w (AmongP w g A n c bs (m + 2) xs) := by
  go_enter Try.func45, Try.ntmps45
  go_wp2_with fail
  refine (c_pick xs.length g A n c bs m _ hc hm hn (by omega) (by omega)).mono ?_
  rintro e w1 ⟨x, rfl, x0, x1, hc1, gr⟩
  obtain ⟨k, rfl⟩ := Int.eq_ofNat_of_zero_le x0
  have hk : k < xs.length := by omega
  have hr1 : RdI w1 B xs.length xs := RdV.grown hr (fun _ => hB) gr
  obtain ⟨b, off, rfl, _, hcx⟩ := hr1.at_ hk
  have hmem : Hid (xs.getD k 0 ∈ xs) := Lib.hid (by simp [hk])
  generalize xs.getD k 0 = y at *
  go_wp2_with fail
  exact bodyPost_ret (results_tmp rfl _ _ _) rfl ⟨y, rfl, hmem.out, hc1, gr⟩
end Go.Proofs.Ytoeacocijcammaa
