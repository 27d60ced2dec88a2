/- Draws of a code and a number of heaps: the walk. -/
import Derived.Test.YtoeacocijcammaaLpD
namespace Go.Proofs.Ytoeacocijcammaa
open Go.RowKit

theorem RdI.pre {w : World} {A : Option Addr} {n k : Nat} {xs : List Int} (h : RdI w A n xs) (hk : k ≤ n) : RdI w A k (xs.take k) := by
  have hl := h.len
  refine ⟨by simp; omega, fun hn => ?_⟩
  obtain ⟨b, off, e, hc⟩ := h.2 (by omega)
  refine ⟨b, off, e, fun i u hu => hc i u ?_⟩
  rw [List.map_take, List.getElem?_take] at hu
  split at hu
  · exact hu
  · cases hu
/-- A code and a number. -/
def Draw1P (w : World) (e : Ending) (w' : World) : Prop :=
  ∃ B c1 L x, e = .returned (.tuple #[.slice B L.length c1, .int .i64 x]) ∧ RdI w' B L.length L ∧ L.length ≤ 8 ∧ -1 ≤ x ∧ x ≤ 301 ∧ Below w.heap.size w w'
set_option maxRecDepth 100000 in
set_option maxHeartbeats 6400000 in
theorem c_DrawHeapMoves (A : Option Addr) (n c : Nat) (bs : List Int) (w : World) (hc : Code8 w A n bs) :
    Calls Try.prog 19 #[.slice A n c] w (Draw1P w) := by
  obtain ⟨hr, hf, hn⟩ := hc
  have hcur := cur_new (c := c) hr hf
  have HD := Lib.hid (c_l17DrawCode w.heap.size A n c bs 0 _ hcur (by omega) (by omega))
  have B0 : Hid (Below w.heap.size w (w.alloc (.cells #[.slice A n c, .int .i64 0, .int .u64 0] 55))) := Lib.hid ((Below.refl _ _).alloc (Nat.le_refl _) _)
  clear hr hcur
  go_enter Try.func19, Try.ntmps19
  go_wp2_with fail
  refine HD.out.mono ?_
  rintro e w1 ⟨B, c1, L, rfl, hl, hD⟩
  have D1 := Lib.hid hD
  have gne : w.heap.size < (w.alloc (.cells #[.slice A n c, .int .i64 0, .int .u64 0] 55)).heap.size := by simp
  clear HD hD
  have HP := Lib.hid (c_pick 12 w.heap.size A n c bs _ _ D1.out.cur (by omega) (by omega) (by decide) (by decide))
  go_wp2_with fail
  refine HP.out.mono ?_
  rintro e w2 ⟨x1, rfl, p1, q1, hc2, gr⟩
  have D2 := Lib.hid (D1.out.next gne hc2 gr)
  clear HP hc2 gr D1
  have HP := Lib.hid (c_pick 12 w.heap.size A n c bs _ _ D2.out.cur (by omega) (by omega) (by decide) (by decide))
  go_wp2_with fail
  refine HP.out.mono ?_
  rintro e w3 ⟨x2, rfl, p2, q2, hc2, gr⟩
  have D3 := Lib.hid (D2.out.next gne hc2 gr)
  clear HP hc2 gr D2
  have HP := Lib.hid (c_pick 12 w.heap.size A n c bs _ _ D3.out.cur (by omega) (by omega) (by decide) (by decide))
  go_wp2_with fail
  refine HP.out.mono ?_
  rintro e w4 ⟨x3, rfl, p3, q3, hc2, gr⟩
  have D4 := Lib.hid (D3.out.next gne hc2 gr)
  clear HP hc2 gr D3
  have hrow : Hid (RdI (w4.alloc (.cells ([x1, x2, x3, 300, 301, -1].map (Value.int .i64)).toArray 3)) (some ⟨w4.heap.size, 0, none⟩) 6 [x1, x2, x3, 300, 301, -1]) := Lib.hid (RdI.of_cells (heap_alloc_new _ _))
  have D4A := Lib.hid (D4.out.alloc (.cells ([x1, x2, x3, 300, 301, -1].map (Value.int .i64)).toArray 3))
  have HP := Lib.hid (c_pick 3 w.heap.size A n c bs _ _ D4A.out.cur (by omega) (by omega) (by decide) (by decide))
  have hgw : w.heap.size < w4.heap.size := Nat.lt_of_lt_of_le gne D4.out.grown.size
  go_wp2_with fail
  refine HP.out.mono ?_
  rintro e w5 ⟨y, rfl, y0, y1, hc2, gr⟩
  have hrow2 := Lib.hid (RdV.grown hrow.out (fun _ b off e => by injection e with e; injection e with e; omega) gr)
  have D5 := Lib.hid (D4A.out.next gne hc2 gr)
  clear HP hc2 gr D4 D4A hrow
  rcases (show y = 0 ∨ y = 1 ∨ y = 2 by omega) with rfl | rfl | rfl
  · have HA := Lib.hid (c_among (some ⟨w4.heap.size, 0, none⟩) 6 [x1, x2, x3, 300] (by simp) (by simp) w.heap.size (fun b off e => by injection e with e; injection e with e; omega) A n c bs _ _ (RdI.pre hrow2.out (show 4 ≤ 6 by decide)) D5.out.cur (by omega) (by omega))
    go_wp2_with fail
    refine HA.out.mono ?_
    rintro e w6 ⟨z, rfl, hz, hc3, gr3⟩
    have D6 := Lib.hid (D5.out.next gne hc3 gr3)
    have hz2 : -1 ≤ z ∧ z ≤ 301 := by
      simp only [List.mem_cons, List.not_mem_nil, or_false] at hz
      rcases hz with rfl | rfl | rfl | rfl <;> omega
    have hO : Hid (RdI _ B L.length L ∧ Below w.heap.size w _) := Lib.hid ⟨OwnI.rd D6.out.own, B0.out.grown D6.out.grown (by simp) (fun k hk => by have := Option.some.inj hk; omega)⟩
    clear hz hc3 gr3 HA D5 D6 hrow2
    go_wp2_with fail
    exact bodyPost_ret (results_tmp2 rfl _ _ _) rfl ⟨B, c1, L, z, rfl, hO.out.1, hl, hz2.1, hz2.2, hO.out.2⟩
  · have HA := Lib.hid (c_among (some ⟨w4.heap.size, 0, none⟩) 6 [x1, x2, x3, 300, 301] (by simp) (by simp) w.heap.size (fun b off e => by injection e with e; injection e with e; omega) A n c bs _ _ (RdI.pre hrow2.out (show 5 ≤ 6 by decide)) D5.out.cur (by omega) (by omega))
    go_wp2_with fail
    refine HA.out.mono ?_
    rintro e w6 ⟨z, rfl, hz, hc3, gr3⟩
    have D6 := Lib.hid (D5.out.next gne hc3 gr3)
    have hz2 : -1 ≤ z ∧ z ≤ 301 := by
      simp only [List.mem_cons, List.not_mem_nil, or_false] at hz
      rcases hz with rfl | rfl | rfl | rfl | rfl <;> omega
    have hO : Hid (RdI _ B L.length L ∧ Below w.heap.size w _) := Lib.hid ⟨OwnI.rd D6.out.own, B0.out.grown D6.out.grown (by simp) (fun k hk => by have := Option.some.inj hk; omega)⟩
    clear hz hc3 gr3 HA D5 D6 hrow2
    go_wp2_with fail
    exact bodyPost_ret (results_tmp2 rfl _ _ _) rfl ⟨B, c1, L, z, rfl, hO.out.1, hl, hz2.1, hz2.2, hO.out.2⟩
  · have HA := Lib.hid (c_among (some ⟨w4.heap.size, 0, none⟩) 6 [x1, x2, x3, 300, 301, -1] (by simp) (by simp) w.heap.size (fun b off e => by injection e with e; injection e with e; omega) A n c bs _ _ (RdI.pre hrow2.out (show 6 ≤ 6 by decide)) D5.out.cur (by omega) (by omega))
    go_wp2_with fail
    refine HA.out.mono ?_
    rintro e w6 ⟨z, rfl, hz, hc3, gr3⟩
    have D6 := Lib.hid (D5.out.next gne hc3 gr3)
    have hz2 : -1 ≤ z ∧ z ≤ 301 := by
      simp only [List.mem_cons, List.not_mem_nil, or_false] at hz
      rcases hz with rfl | rfl | rfl | rfl | rfl | rfl <;> omega
    have hO : Hid (RdI _ B L.length L ∧ Below w.heap.size w _) := Lib.hid ⟨OwnI.rd D6.out.own, B0.out.grown D6.out.grown (by simp) (fun k hk => by have := Option.some.inj hk; omega)⟩
    clear hz hc3 gr3 HA D5 D6 hrow2
    go_wp2_with fail
    exact bodyPost_ret (results_tmp2 rfl _ _ _) rfl ⟨B, c1, L, z, rfl, hO.out.1, hl, hz2.1, hz2.2, hO.out.2⟩
set_option maxRecDepth 100000 in
set_option maxHeartbeats 6400000 in
theorem c_DrawHeapValues (A : Option Addr) (n c : Nat) (bs : List Int) (w : World) (hc : Code8 w A n bs) :
    Calls Try.prog 27 #[.slice A n c] w (Draw1P w) := by
  obtain ⟨hr, hf, hn⟩ := hc
  have hcur := cur_new (c := c) hr hf
  have HD := Lib.hid (c_l17DrawCode w.heap.size A n c bs 0 _ hcur (by omega) (by omega))
  have B0 : Hid (Below w.heap.size w (w.alloc (.cells #[.slice A n c, .int .i64 0, .int .u64 0] 55))) := Lib.hid ((Below.refl _ _).alloc (Nat.le_refl _) _)
  clear hr hcur
  go_enter Try.func27, Try.ntmps27
  go_wp2_with fail
  refine HD.out.mono ?_
  rintro e w1 ⟨B, c1, L, rfl, hl, hD⟩
  have D1 := Lib.hid hD
  have gne : w.heap.size < (w.alloc (.cells #[.slice A n c, .int .i64 0, .int .u64 0] 55)).heap.size := by simp
  clear HD hD
  have HP := Lib.hid (c_pick 40 w.heap.size A n c bs _ _ D1.out.cur (by omega) (by omega) (by decide) (by decide))
  go_wp2_with fail
  refine HP.out.mono ?_
  rintro e w2 ⟨x1, rfl, p1, q1, hc2, gr⟩
  have D2 := Lib.hid (D1.out.next gne hc2 gr)
  clear HP hc2 gr D1
  have HP := Lib.hid (c_pick 40 w.heap.size A n c bs _ _ D2.out.cur (by omega) (by omega) (by decide) (by decide))
  go_wp2_with fail
  refine HP.out.mono ?_
  rintro e w3 ⟨x2, rfl, p2, q2, hc2, gr⟩
  have D3 := Lib.hid (D2.out.next gne hc2 gr)
  clear HP hc2 gr D2
  have HP := Lib.hid (c_pick 90 w.heap.size A n c bs _ _ D3.out.cur (by omega) (by omega) (by decide) (by decide))
  go_wp2_with fail
  refine HP.out.mono ?_
  rintro e w4 ⟨x3, rfl, p3, q3, hc2, gr⟩
  have D4 := Lib.hid (D3.out.next gne hc2 gr)
  clear HP hc2 gr D3
  have HP := Lib.hid (c_pick 90 w.heap.size A n c bs _ _ D4.out.cur (by omega) (by omega) (by decide) (by decide))
  go_wp2_with fail
  refine HP.out.mono ?_
  rintro e w5 ⟨x4, rfl, p4, q4, hc2, gr⟩
  have D5 := Lib.hid (D4.out.next gne hc2 gr)
  clear HP hc2 gr D4
  have hrow : Hid (RdI (w5.alloc (.cells ([x1, x2, x3, x4, 300, 301, -1].map (Value.int .i64)).toArray 3)) (some ⟨w5.heap.size, 0, none⟩) 7 [x1, x2, x3, x4, 300, 301, -1]) := Lib.hid (RdI.of_cells (heap_alloc_new _ _))
  have D5A := Lib.hid (D5.out.alloc (.cells ([x1, x2, x3, x4, 300, 301, -1].map (Value.int .i64)).toArray 3))
  have HP := Lib.hid (c_pick 4 w.heap.size A n c bs _ _ D5A.out.cur (by omega) (by omega) (by decide) (by decide))
  have hgw : w.heap.size < w5.heap.size := Nat.lt_of_lt_of_le gne D5.out.grown.size
  go_wp2_with fail
  refine HP.out.mono ?_
  rintro e w6 ⟨y, rfl, y0, y1, hc2, gr⟩
  have hrow2 := Lib.hid (RdV.grown hrow.out (fun _ b off e => by injection e with e; injection e with e; omega) gr)
  have D6 := Lib.hid (D5A.out.next gne hc2 gr)
  clear HP hc2 gr D5 D5A hrow
  rcases (show y = 0 ∨ y = 1 ∨ y = 2 ∨ y = 3 by omega) with rfl | rfl | rfl | rfl
  · have HA := Lib.hid (c_among (some ⟨w5.heap.size, 0, none⟩) 7 [x1, x2, x3, x4] (by simp) (by simp) w.heap.size (fun b off e => by injection e with e; injection e with e; omega) A n c bs _ _ (RdI.pre hrow2.out (show 4 ≤ 7 by decide)) D6.out.cur (by omega) (by omega))
    go_wp2_with fail
    refine HA.out.mono ?_
    rintro e w7 ⟨z, rfl, hz, hc3, gr3⟩
    have D7 := Lib.hid (D6.out.next gne hc3 gr3)
    have hz2 : -1 ≤ z ∧ z ≤ 301 := by
      simp only [List.mem_cons, List.not_mem_nil, or_false] at hz
      rcases hz with rfl | rfl | rfl | rfl <;> omega
    have hO : Hid (RdI _ B L.length L ∧ Below w.heap.size w _) := Lib.hid ⟨OwnI.rd D7.out.own, B0.out.grown D7.out.grown (by simp) (fun k hk => by have := Option.some.inj hk; omega)⟩
    clear hz hc3 gr3 HA D6 D7 hrow2
    go_wp2_with fail
    exact bodyPost_ret (results_tmp2 rfl _ _ _) rfl ⟨B, c1, L, z, rfl, hO.out.1, hl, hz2.1, hz2.2, hO.out.2⟩
  · have HA := Lib.hid (c_among (some ⟨w5.heap.size, 0, none⟩) 7 [x1, x2, x3, x4, 300] (by simp) (by simp) w.heap.size (fun b off e => by injection e with e; injection e with e; omega) A n c bs _ _ (RdI.pre hrow2.out (show 5 ≤ 7 by decide)) D6.out.cur (by omega) (by omega))
    go_wp2_with fail
    refine HA.out.mono ?_
    rintro e w7 ⟨z, rfl, hz, hc3, gr3⟩
    have D7 := Lib.hid (D6.out.next gne hc3 gr3)
    have hz2 : -1 ≤ z ∧ z ≤ 301 := by
      simp only [List.mem_cons, List.not_mem_nil, or_false] at hz
      rcases hz with rfl | rfl | rfl | rfl | rfl <;> omega
    have hO : Hid (RdI _ B L.length L ∧ Below w.heap.size w _) := Lib.hid ⟨OwnI.rd D7.out.own, B0.out.grown D7.out.grown (by simp) (fun k hk => by have := Option.some.inj hk; omega)⟩
    clear hz hc3 gr3 HA D6 D7 hrow2
    go_wp2_with fail
    exact bodyPost_ret (results_tmp2 rfl _ _ _) rfl ⟨B, c1, L, z, rfl, hO.out.1, hl, hz2.1, hz2.2, hO.out.2⟩
  · have HA := Lib.hid (c_among (some ⟨w5.heap.size, 0, none⟩) 7 [x1, x2, x3, x4, 300, 301] (by simp) (by simp) w.heap.size (fun b off e => by injection e with e; injection e with e; omega) A n c bs _ _ (RdI.pre hrow2.out (show 6 ≤ 7 by decide)) D6.out.cur (by omega) (by omega))
    go_wp2_with fail
    refine HA.out.mono ?_
    rintro e w7 ⟨z, rfl, hz, hc3, gr3⟩
    have D7 := Lib.hid (D6.out.next gne hc3 gr3)
    have hz2 : -1 ≤ z ∧ z ≤ 301 := by
      simp only [List.mem_cons, List.not_mem_nil, or_false] at hz
      rcases hz with rfl | rfl | rfl | rfl | rfl | rfl <;> omega
    have hO : Hid (RdI _ B L.length L ∧ Below w.heap.size w _) := Lib.hid ⟨OwnI.rd D7.out.own, B0.out.grown D7.out.grown (by simp) (fun k hk => by have := Option.some.inj hk; omega)⟩
    clear hz hc3 gr3 HA D6 D7 hrow2
    go_wp2_with fail
    exact bodyPost_ret (results_tmp2 rfl _ _ _) rfl ⟨B, c1, L, z, rfl, hO.out.1, hl, hz2.1, hz2.2, hO.out.2⟩
  · have HA := Lib.hid (c_among (some ⟨w5.heap.size, 0, none⟩) 7 [x1, x2, x3, x4, 300, 301, -1] (by simp) (by simp) w.heap.size (fun b off e => by injection e with e; injection e with e; omega) A n c bs _ _ (RdI.pre hrow2.out (show 7 ≤ 7 by decide)) D6.out.cur (by omega) (by omega))
    go_wp2_with fail
    refine HA.out.mono ?_
    rintro e w7 ⟨z, rfl, hz, hc3, gr3⟩
    have D7 := Lib.hid (D6.out.next gne hc3 gr3)
    have hz2 : -1 ≤ z ∧ z ≤ 301 := by
      simp only [List.mem_cons, List.not_mem_nil, or_false] at hz
      rcases hz with rfl | rfl | rfl | rfl | rfl | rfl | rfl <;> omega
    have hO : Hid (RdI _ B L.length L ∧ Below w.heap.size w _) := Lib.hid ⟨OwnI.rd D7.out.own, B0.out.grown D7.out.grown (by simp) (fun k hk => by have := Option.some.inj hk; omega)⟩
    clear hz hc3 gr3 HA D6 D7 hrow2
    go_wp2_with fail
    exact bodyPost_ret (results_tmp2 rfl _ _ _) rfl ⟨B, c1, L, z, rfl, hO.out.1, hl, hz2.1, hz2.2, hO.out.2⟩
end Go.Proofs.Ytoeacocijcammaa
