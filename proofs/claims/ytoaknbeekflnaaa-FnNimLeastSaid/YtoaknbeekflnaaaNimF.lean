/- The draws of nimbers, and the law on the nimbers' ring. -/
import Derived.Test.YtoaknbeekflnaaaNimE
import Derived.Test.YtoaknbeekflnaaaCur
namespace Go.Proofs.Ytoaknbeekflnaaa
open Go.RowKit

theorem RdI.take {w : World} {A : Option Addr} {n k : Nat} {xs : List Int} (h : RdI w A n xs) (hk : k ≤ n) : RdI w A k (xs.take k) := by
  refine ⟨by have := h.len; simp; omega, fun hp => ?_⟩
  obtain ⟨b, off, hA, hc⟩ := h.2 (by omega)
  refine ⟨b, off, hA, fun i u hu => hc i u ?_⟩
  simp only [List.getElem?_map, List.getElem?_take] at hu ⊢
  split at hu
  · exact hu
  · simp at hu
theorem RdI.of_cells {w : World} {b : Nat} {t : TypeId} {xs : List Int} (h : w.heap[b]? = some (.cells (xs.map (Value.int .i64)).toArray t (0, 0))) : RdI w (some ⟨b, 0, none⟩) xs.length xs := by
  refine ⟨by simp, fun _ => ⟨b, 0, rfl, fun i u hu => ?_⟩⟩
  simp [World.cell?, h] at hu ⊢
  exact hu
set_option maxHeartbeats 2000000 in
theorem c_l16DrawNimber (g : Nat) (A : Option Addr) (n c : Nat) (bs : List Int) (m : Int) (w : World) (hc : Cur w g A n c bs m) (hm : m ≤ 900000000000) (hn : n ≤ 1099511627776) :
    Calls Try.prog 52 #[.pointer (some ⟨g, 0, none⟩)] w (fun e w' => ∃ x : Int, e = .returned (.int .i64 x) ∧ -1 ≤ x ∧ x ≤ 256 ∧ Cur w' g A n c bs (m + 10) ∧ w.grownBy w' (some g)) := by
  go_enter Try.func52, Try.ntmps52
  go_wp2_with fail
  refine (c_pick 256 g A n c bs m _ hc (by omega) hn (by omega) (by omega)).mono ?_
  rintro e w1 ⟨x1, rfl, a1, b1, hc1, gr1⟩
  go_wp2_with fail
  refine (c_pick 16 g A n c bs _ _ hc1 (by omega) hn (by omega) (by omega)).mono ?_
  rintro e w2 ⟨x2, rfl, a2, b2, hc2, gr2⟩
  go_wp2_with fail
  refine (c_pick 256 g A n c bs _ _ hc2 (by omega) hn (by omega) (by omega)).mono ?_
  rintro e w3 ⟨x3, rfl, a3, b3, hc3, gr3⟩
  go_wp2_with fail
  have hc3' := hc3.below (w' := w3.alloc (.cells #[.int .i64 x1, .int .i64 x2, .int .i64 x3, .int .i64 0, .int .i64 1, .int .i64 255, .int .i64 256, .int .i64 (-1)] 3)) ((Below.refl _ _).alloc (Nat.le_refl _) _)
  refine (c_pick 10 g A n c bs _ _ hc3' (by omega) hn (by omega) (by omega)).mono ?_
  rintro e w4 ⟨x4, rfl, a4, b4, hc4, gr4⟩
  go_wp2_with fail
  have hb4 : w4.heap[w3.heap.size]? = some (.cells ([x1, x2, x3, 0, 1, 255, 256, -1].map (Value.int .i64)).toArray 3 (0, 0)) := by
    rw [gr4.block _ (by simp) (fun e => by injection e with e; have := hc3.lt; omega)]
    exact heap_alloc_new _ _
  have hr4 := RdI.of_cells hb4
  obtain ⟨k, hk⟩ : ∃ k, (6 + x4 / 4).toNat = k := ⟨_, rfl⟩
  have hk6 : 6 ≤ k := by omega
  have hk8 : k ≤ 8 := by omega
  have hr5 : RdI w4 (some ⟨w3.heap.size, 0, none⟩) k ([x1, x2, x3, 0, 1, 255, 256, -1].take k) := hr4.take (by simpa using hk8)
  obtain ⟨xs, hxs⟩ : ∃ xs, [x1, x2, x3, 0, 1, 255, 256, -1].take k = xs := ⟨_, rfl⟩
  rw [hxs] at hr5
  have hmem : ∀ x ∈ xs, -1 ≤ x ∧ x ≤ 256 := by
    intro x hx
    rw [← hxs] at hx
    have := List.mem_of_mem_take hx
    simp only [List.mem_cons, List.not_mem_nil, or_false] at this
    omega
  have hl := hr5.len
  rw [hk]
  subst hl
  clear hxs hr4 hb4 hk
  refine (c_among _ _ xs (by omega) (by omega) g (fun b off e => by injection e with e; injection e with e; have := hc3.lt; omega) A n c bs _ _ hr5 hc4 (by omega) hn).mono ?_
  rintro e w5 ⟨x, rfl, hx, hc5, gr5⟩
  have hxb := hmem x hx
  have grA : w.grownBy w5 (some g) := grown_trans (grown_trans (grown_trans gr1 gr2) gr3) (grown_trans (grown_trans (World.grownBy_alloc w3 _ (some g)) gr4) gr5)
  clear hmem
  go_wp2_with fail
  exact bodyPost_ret (results_tmp rfl _ _ _) rfl ⟨x, rfl, hxb.1, hxb.2, hc5.more (by omega), grA⟩

/-- Two nimbers, drawn. -/
def TwoP (w : World) (e : Ending) (w' : World) : Prop := ∃ a b : Int, e = .returned (.tuple #[.int .i64 a, .int .i64 b]) ∧ -1 ≤ a ∧ a ≤ 256 ∧ -1 ≤ b ∧ b ≤ 256 ∧ Below w.heap.size w w'
theorem cur_new {w : World} {A : Option Addr} {n c : Nat} {bs : List Int} (hr : RdV w A n (bs.map (Value.int .u8))) (hf : Fits .u8 bs) :
    Cur (w.alloc (.cells #[.slice A n c, .int .i64 0, .int .u64 0] 46)) w.heap.size A n c bs 0 :=
  ⟨⟨0, 0, heap_alloc_new _ _, by omega, by omega, rfl⟩, hr.below ((Below.refl _ _).alloc (Nat.le_refl _) _), hf, fun hn b off e => by
    obtain ⟨b', off', hA, hb, _⟩ := hr.at_ hn
    rw [hA] at e
    injection e with e
    injection e with e1
    omega⟩
/-- What is known of a code that came in. -/
def Code8 (w : World) (A : Option Addr) (n : Nat) (bs : List Int) : Prop := RdV w A n (bs.map (Value.int .u8)) ∧ Fits .u8 bs ∧ n ≤ 65536
theorem Code8.below {w w' : World} {A : Option Addr} {n : Nat} {bs : List Int} (h : Code8 w A n bs) (hb : Below w.heap.size w w') : Code8 w' A n bs :=
  ⟨h.1.below hb, h.2.1, h.2.2⟩
set_option maxHeartbeats 1000000 in
theorem c_l16DrawTwo (A : Option Addr) (n c : Nat) (bs : List Int) (w : World) (hc : Code8 w A n bs) :
    Calls Try.prog 47 #[.slice A n c] w (TwoP w) := by
  obtain ⟨hr, hf, hn⟩ := hc
  have hcur := cur_new (c := c) hr hf
  go_enter Try.func47, Try.ntmps47
  go_wp2_with fail
  refine (c_l16DrawNimber _ A n c bs _ _ hcur (by omega) (by omega)).mono ?_
  rintro e w1 ⟨x, rfl, x0, x1, hc1, gr1⟩
  go_wp2_with fail
  refine (c_l16DrawNimber _ A n c bs _ _ hc1 (by omega) (by omega)).mono ?_
  rintro e w2 ⟨y, rfl, y0, y1, hc2, gr2⟩
  have hB : Below w.heap.size w w2 := (((Below.refl _ _).alloc (Nat.le_refl _) _).grown gr1 (by simp) (fun k hk => by injection hk with hk; omega)).grown gr2 (by have := gr1.size; simp at this; omega) (fun k hk => by injection hk with hk; omega)
  go_wp2_with fail
  exact bodyPost_ret (results_tmp2 rfl _ _ _) rfl ⟨x, y, rfl, x0, x1, y0, y1, hB⟩
set_option maxHeartbeats 1000000 in
theorem c_DrawNimProduct (A : Option Addr) (n c : Nat) (bs : List Int) (w : World) (hc : Code8 w A n bs) :
    Calls Try.prog 34 #[.slice A n c] w (TwoP w) := by
  go_enter Try.func34, Try.ntmps34
  go_wp2_with fail
  refine (c_l16DrawTwo A n c bs _ hc).mono ?_
  rintro e w1 ⟨x, y, rfl, x0, x1, y0, y1, hB⟩
  go_wp2_with fail
  exact bodyPost_ret (results_tmp2 rfl _ _ _) rfl ⟨x, y, rfl, x0, x1, y0, y1, hB⟩
set_option maxHeartbeats 1000000 in
theorem c_DrawNimSolve (A : Option Addr) (n c : Nat) (bs : List Int) (w : World) (hc : Code8 w A n bs) :
    Calls Try.prog 41 #[.slice A n c] w (TwoP w) := by
  go_enter Try.func41, Try.ntmps41
  go_wp2_with fail
  refine (c_l16DrawTwo A n c bs _ hc).mono ?_
  rintro e w1 ⟨x, y, rfl, x0, x1, y0, y1, hB⟩
  go_wp2_with fail
  exact bodyPost_ret (results_tmp2 rfl _ _ _) rfl ⟨x, y, rfl, x0, x1, y0, y1, hB⟩

/-- A byte of the code, or another number below 256. -/
def ByteP (w : World) (e : Ending) (w' : World) : Prop := ∃ x : Nat, e = .returned (.int .i64 x) ∧ x < 256 ∧ w = w'
set_option maxHeartbeats 1000000 in
theorem c_rAt (i : Int) (A : Option Addr) (n c : Nat) (bs : List Int) (w : World) (hc : Code8 w A n bs) (h0 : 0 ≤ i) (h1 : i ≤ 1000) :
    Calls Try.prog 35 #[.slice A n c, .int .i64 i] w (ByteP w) := by
  obtain ⟨hr, hf, hn⟩ := hc
  by_cases hlt : i < n
  · obtain ⟨k, rfl⟩ := Int.eq_ofNat_of_zero_le h0
    obtain ⟨b, off, rfl, _, hcell⟩ := hr.at_ (k := k) (by omega)
    have hkl : k < bs.length := by have := hr.len; simp at this; omega
    obtain ⟨x, hx1, hcx⟩ : ∃ x : Nat, x < 256 ∧ w.cell? ⟨b, off + k, none⟩ = some (.int .u8 x) := by
      have hx := fits_u8 hf (List.getElem_mem hkl)
      refine ⟨bs[k].toNat, by omega, ?_⟩
      rw [Int.toNat_of_nonneg hx.1]
      exact hcell k _ (by simp [List.getElem?_eq_getElem hkl])
    clear hcell
    go_enter Try.func35, Try.ntmps35
    go_wp2_with fail
    exact bodyPost_ret (results_tmp rfl _ _ _) rfl ⟨x, rfl, hx1, rfl⟩
  · have m0 : 0 ≤ (i * 11 + 3 * (n : Int)) % 256 := Int.emod_nonneg _ (by decide)
    have m1 : (i * 11 + 3 * (n : Int)) % 256 < 256 := Int.emod_lt_of_pos _ (by decide)
    obtain ⟨x, hx⟩ := Int.eq_ofNat_of_zero_le m0
    have Hx := Lib.hid hx
    have hx1 : x < 256 := by omega
    clear hx m0 m1
    go_enter Try.func35, Try.ntmps35
    go_wp2_with fail
    refine bodyPost_ret (results_tmp rfl _ _ _) rfl ?_
    exact ⟨x, ret_int Hx.out, hx1, rfl⟩
theorem c_rBig (A : Option Addr) (n c : Nat) (w : World) (hm : n ≤ maxLen) :
    Calls Try.prog 33 #[.slice A n c] w fun e w' => e = .returned (.bool (decide (65536 < (n : Int)))) ∧ w = w' := by
  unfold maxLen at hm
  go_enter Try.func33, Try.ntmps33
  go_wp2
  go_ret
  exact ⟨rfl, rfl⟩
end Go.Proofs.Ytoaknbeekflnaaa
