/- SimplestBetween of the reference, and the walk of its law. -/
import Derived.Test.YtbfabnpcahinfaaDyM
namespace Go.Proofs.Ytbfabnpcahinfaa
open Go.RowKit

theorem ifV_neg (x y : Int) : ifV (-x) y = ngV (ifV x y) := by
  cases h : gd x y
  · have h2 : gd (-x) y = false := by
      cases e : gd (-x) y
      · rfl
      · have := gd_neg e
        rw [Int.neg_neg, h] at this
        exact absurd this (by decide)
    simp [ifV, h, h2, ngV]
  · simp [ifV, h, gd_neg h, ngV]
/-- What l2Between makes of two numbers. -/
def betV (t p u q : Int) : Int × Int :=
  if t < 0 then (if 0 < u then (0, 0) else (-(l2B (sc 16 (-u) q) (sc 16 (-t) p)).1, (l2B (sc 16 (-u) q) (sc 16 (-t) p)).2)) else l2B (sc 16 t p) (sc 16 u q)
theorem betV_sim {t p u q : Int} (hg : gd t p = true) (hg2 : gd u q = true) (hlt : sc 16 t p < sc 16 u q) : ifV (betV t p u q).1 (betV t p u q).2 = simV t p u q := by
  have h00 : ifV 0 0 = (0, 0, true) := by decide
  by_cases ht : t < 0
  · by_cases hu : 0 < u
    · simp [betV, simV, hg, hg2, hlt, ht, hu, h00]
    · simp [betV, simV, hg, hg2, hlt, ht, hu, ifV_neg, ifV_l2B]
  · simp [betV, simV, hg, hg2, hlt, ht, ifV_l2B]
set_option maxHeartbeats 4000000 in
theorem s_l2B_mid (t p u q : Int) (w : World) (hg : gd t p = true) (hg2 : gd u q = true) (ht : t < 0) (hu : 0 < u) :
    Calls Try.prog 54 #[dv t p, dv u q] w fun e w' => e = .returned (dv 0 0) ∧ Below w.heap.size w w' := by
  obtain ⟨g1, g2, g3, g4⟩ := gd_rng hg
  obtain ⟨k1, k2, k3, k4⟩ := gd_rng hg2
  have HL1 := Lib.hid (fun w => s_l2Less u q 0 0 w (by omega) (by omega) k3 k4 (by decide) (by decide) (by decide) (by decide))
  have HL2 := Lib.hid (fun w => s_l2Less t p 0 0 w (by omega) (by omega) g3 g4 (by decide) (by decide) (by decide) (by decide))
  have e0 : sc 24 0 0 = 0 := by simp [sc]
  rw [e0] at HL1 HL2
  rw [show decide (sc 24 u q < 0) = false from decide_eq_false (fun h => by have := sc_lt.1 h; omega)] at HL1
  rw [show decide (sc 24 t p < 0) = true from decide_eq_true (sc_lt.2 ht)] at HL2
  have hu1 : (u == 0) = false := by simp; omega
  clear e0
  go_enter Try.func54, Try.ntmps54
  go_wp2_with fail
  refine (HL1.out _).mono ?_
  rintro e w1 ⟨rfl, b1⟩
  have d0 : w1.cell? ⟨w.heap.size, 0, none⟩ = some (.int .i64 t) := bkeep b1 _ _ (by simp [go_sem])
  have d1 : w1.cell? ⟨w.heap.size, 1, none⟩ = some (.int .i64 p) := bkeep b1 _ _ (by simp [go_sem])
  have d2 : w1.cell? ⟨w.heap.size + 1, 0, none⟩ = some (.int .i64 u) := bkeep b1 _ _ (by simp [go_sem])
  have d3 : w1.cell? ⟨w.heap.size + 1, 1, none⟩ = some (.int .i64 q) := bkeep b1 _ _ (by simp [go_sem])
  have d4 : w1.cell? ⟨w.heap.size + 2, 0, none⟩ = some (.int .i64 0) := bkeep b1 _ _ (by simp [go_sem])
  have d5 : w1.cell? ⟨w.heap.size + 2, 1, none⟩ = some (.int .i64 0) := bkeep b1 _ _ (by simp [go_sem])
  have f1 : ∀ o, w1.frozen? ⟨w.heap.size + 2, o, none⟩ = false := fun o => ((bcell b1).2 _ _ (by simp)).trans (by simp [go_sem])
  have BB := Lib.hid (Below.next (by go_grown) b1 : Below w.heap.size w w1)
  have D4 := Lib.hid d4
  have D5 := Lib.hid d5
  have F1 := Lib.hid f1
  clear b1 d4 d5 f1
  go_wp2_with fail
  refine (HL2.out _).mono ?_
  rintro e w2 ⟨rfl, b2⟩
  have x0 := bkeep b2 _ _ D4.out
  have x1 := bkeep b2 _ _ D5.out
  have y0 : ∀ o, w2.frozen? ⟨w.heap.size + 2, o, none⟩ = false := fun o => ((bcell b2).2 _ _ (cell_lt D4.out)).trans (F1.out o)
  have B2 := Lib.hid (Below.next BB.out b2)
  clear b2 d0 d1 d2 d3
  go_wp2_with fail
  exact bodyPost_ret (res_dv _ _ rfl rfl (two_set x0 x1).1 (two_set x0 x1).2) rfl ⟨rfl, (B2.out.setCell (by simp; omega) _).setCell (by simp; omega) _⟩
theorem s_l2Between (t p u q : Int) (w : World) (hg : gd t p = true) (hg2 : gd u q = true) (hlt : sc 16 t p < sc 16 u q) :
    Calls Try.prog 54 #[dv t p, dv u q] w fun e w' => e = .returned (dv (betV t p u q).1 (betV t p u q).2) ∧ Below w.heap.size w w' := by
  by_cases ht : t < 0
  · by_cases hu : 0 < u
    · have e : betV t p u q = (0, 0) := by simp [betV, ht, hu]
      rw [e]; exact s_l2B_mid t p u q w hg hg2 ht hu
    · have e : betV t p u q = (-(l2B (sc 16 (-u) q) (sc 16 (-t) p)).1, (l2B (sc 16 (-u) q) (sc 16 (-t) p)).2) := by simp [betV, ht, hu]
      rw [e]; exact s_l2B_neg t p u q w hg hg2 ht hu hlt
  · have e : betV t p u q = l2B (sc 16 t p) (sc 16 u q) := by simp [betV, ht]
    rw [e]; exact s_l2B_pos t p u q w hg hg2 (by omega) hlt
theorem simV_no1 {t p u q : Int} (h : gd t p = false) : simV t p u q = (0, 0, false) := by simp [simV, h]
theorem simV_no2 {t p u q : Int} (h : gd u q = false) : simV t p u q = (0, 0, false) := by simp [simV, h]
theorem simV_no3 {t p u q : Int} (h : ¬ sc 16 t p < sc 16 u q) : simV t p u q = (0, 0, false) := by simp [simV, h]
set_option maxHeartbeats 4000000 in
theorem s_SimplestBetween (t p u q : Int) (w : World) :
    Calls Try.prog 31 #[dv t p, dv u q] w fun e w' => e = .returned (rv (simV t p u q)) ∧ Below w.heap.size w w' := by
  have HG1 := Lib.hid (fun w => s_l2Good t p w)
  have HG2 := Lib.hid (fun w => s_l2Good u q w)
  cases hg : gd t p
  · have fin : Hid (simV t p u q = (0, 0, false)) := Lib.hid (simV_no1 hg)
    rw [hg] at HG1
    clear hg
    go_enter Try.func31, Try.ntmps31
    go_wp2_with fail
    refine (HG1.out _).mono ?_
    rintro e w1 ⟨rfl, b1⟩
    have c4 : w1.cell? ⟨w.heap.size + 2, 0, none⟩ = some (.int .i64 0) := bkeep b1 _ _ (by simp [go_sem])
    have c5 : w1.cell? ⟨w.heap.size + 2, 1, none⟩ = some (.int .i64 0) := bkeep b1 _ _ (by simp [go_sem])
    have f0 : ∀ o, w1.frozen? ⟨w.heap.size + 2, o, none⟩ = false := fun o => ((bcell b1).2 _ _ (by simp)).trans (by simp [go_sem])
    have B1 := Lib.hid (Below.next (by go_grown) b1 : Below w.heap.size w w1)
    clear b1
    go_wp2_with fail
    exact bodyPost_ret (res_rv _ _ rfl rfl rfl (two_set (b := w.heap.size + 2) c4 c5).1 (two_set (b := w.heap.size + 2) c4 c5).2) rfl ⟨ret_rv fin.out, (B1.out.setCell (by simp; omega) _).setCell (by simp; omega) _⟩
  · rw [hg] at HG1
    go_enter Try.func31, Try.ntmps31
    go_wp2_with fail
    refine (HG1.out _).mono ?_
    rintro e w1 ⟨rfl, b1⟩
    have c0 : w1.cell? ⟨w.heap.size, 0, none⟩ = some (.int .i64 t) := bkeep b1 _ _ (by simp [go_sem])
    have c1 : w1.cell? ⟨w.heap.size, 1, none⟩ = some (.int .i64 p) := bkeep b1 _ _ (by simp [go_sem])
    have c2 : w1.cell? ⟨w.heap.size + 1, 0, none⟩ = some (.int .i64 u) := bkeep b1 _ _ (by simp [go_sem])
    have c3 : w1.cell? ⟨w.heap.size + 1, 1, none⟩ = some (.int .i64 q) := bkeep b1 _ _ (by simp [go_sem])
    have c4 : w1.cell? ⟨w.heap.size + 2, 0, none⟩ = some (.int .i64 0) := bkeep b1 _ _ (by simp [go_sem])
    have c5 : w1.cell? ⟨w.heap.size + 2, 1, none⟩ = some (.int .i64 0) := bkeep b1 _ _ (by simp [go_sem])
    have f0 : ∀ o, w1.frozen? ⟨w.heap.size + 2, o, none⟩ = false := fun o => ((bcell b1).2 _ _ (by simp)).trans (by simp [go_sem])
    have B1 := Lib.hid (Below.next (by go_grown) b1 : Below w.heap.size w w1)
    have F0 := Lib.hid f0
    have C4 := Lib.hid c4
    have C5 := Lib.hid c5
    clear b1 f0 c4 c5
    cases hg2 : gd u q
    · have fin : Hid (simV t p u q = (0, 0, false)) := Lib.hid (simV_no2 hg2)
      rw [hg2] at HG2
      clear hg hg2
      go_wp2_with fail
      refine (HG2.out _).mono ?_
      rintro e w2 ⟨rfl, b2⟩
      have d4 := bkeep b2 _ _ C4.out
      have d5 := bkeep b2 _ _ C5.out
      have f1 : ∀ o, w2.frozen? ⟨w.heap.size + 2, o, none⟩ = false := fun o => ((bcell b2).2 _ _ (cell_lt C4.out)).trans (F0.out o)
      have B2 := Lib.hid (Below.next B1.out b2)
      clear b2 c0 c1 c2 c3
      go_wp2_with fail
      exact bodyPost_ret (res_rv _ _ rfl rfl rfl (two_set (b := w.heap.size + 2) d4 d5).1 (two_set (b := w.heap.size + 2) d4 d5).2) rfl ⟨ret_rv fin.out, (B2.out.setCell (by simp; omega) _).setCell (by simp; omega) _⟩
    · rw [hg2] at HG2
      obtain ⟨g1, g2, g3, g4⟩ := gd_rng hg
      obtain ⟨k1, k2, k3, k4⟩ := gd_rng hg2
      have HL := Lib.hid (fun w => s_l2Less t p u q w (by omega) (by omega) g3 g4 (by omega) (by omega) k3 k4)
      have hcmp := cmp24 hg hg2
      have C0 := Lib.hid c0
      have C1 := Lib.hid c1
      have C2 := Lib.hid c2
      have C3 := Lib.hid c3
      go_wp2_with fail
      refine (HG2.out _).mono ?_
      rintro e w2 ⟨rfl, b2⟩
      have d0 := bkeep b2 _ _ C0.out
      have d1 := bkeep b2 _ _ C1.out
      have d2 := bkeep b2 _ _ C2.out
      have d3 := bkeep b2 _ _ C3.out
      have B2 := Lib.hid b2
      clear b2 c0 c1 c2 c3
      by_cases hlt : sc 16 t p < sc 16 u q
      · rw [show decide (sc 24 t p < sc 24 u q) = true from decide_eq_true (hcmp.2 hlt)] at HL
        have HB := Lib.hid (fun w => s_l2Between t p u q w hg hg2 hlt)
        have hsim := Lib.hid (betV_sim hg hg2 hlt)
        obtain ⟨m, Hm⟩ : ∃ m, Hid (simV t p u q = m) := ⟨_, Lib.hid rfl⟩
        rw [Hm.out] at hsim
        obtain ⟨x, y, ok⟩ := m
        clear hcmp hlt hg hg2
        go_wp2_with fail
        refine (HL.out _).mono ?_
        rintro e w3 ⟨rfl, b3⟩
        have B3 := Lib.hid (Below.next B2.out b3)
        have e0 := bkeep B3.out _ _ C0.out
        have e1 := bkeep B3.out _ _ C1.out
        have e2 := bkeep B3.out _ _ C2.out
        have e3 := bkeep B3.out _ _ C3.out
        clear b3 d0 d1 d2 d3
        go_wp2_with fail
        refine (HB.out _).mono ?_
        rintro e w4 ⟨rfl, b4⟩
        have B4 := Lib.hid (Below.next B3.out b4)
        clear b4 e0 e1 e2 e3
        go_wp2_with fail
        refine (s_l2If _ _ _).mono ?_
        rintro e w5 ⟨rfl, b5⟩
        rw [hsim.out]
        have B5 := Lib.hid (Below.next B4.out b5)
        have x0 := bkeep B5.out _ _ C4.out
        have x1 := bkeep B5.out _ _ C5.out
        have y0 : ∀ o, w5.frozen? ⟨w.heap.size + 2, o, none⟩ = false := fun o => ((bcell B5.out).2 _ _ (cell_lt C4.out)).trans (F0.out o)
        have B6 := Lib.hid (Below.next B1.out B5.out)
        clear b5
        go_wp2_with fail
        exact bodyPost_ret (res_rv _ _ rfl rfl rfl (two_set (b := w.heap.size + 2) x0 x1).1 (two_set (b := w.heap.size + 2) x0 x1).2) rfl ⟨ret_rv Hm.out, (B6.out.setCell (by simp; omega) _).setCell (by simp; omega) _⟩
      · have fin : Hid (simV t p u q = (0, 0, false)) := Lib.hid (simV_no3 hlt)
        rw [show decide (sc 24 t p < sc 24 u q) = false from decide_eq_false (fun h => hlt (hcmp.1 h))] at HL
        clear hcmp hlt hg hg2
        go_wp2_with fail
        refine (HL.out _).mono ?_
        rintro e w3 ⟨rfl, b3⟩
        have B3 := Lib.hid (Below.next B2.out b3)
        have x0 := bkeep B3.out _ _ C4.out
        have x1 := bkeep B3.out _ _ C5.out
        have y0 : ∀ o, w3.frozen? ⟨w.heap.size + 2, o, none⟩ = false := fun o => ((bcell B3.out).2 _ _ (cell_lt C4.out)).trans (F0.out o)
        have B6 := Lib.hid (Below.next B1.out B3.out)
        clear b3 d0 d1 d2 d3
        go_wp2_with fail
        exact bodyPost_ret (res_rv _ _ rfl rfl rfl (two_set (b := w.heap.size + 2) x0 x1).1 (two_set (b := w.heap.size + 2) x0 x1).2) rfl ⟨ret_rv fin.out, (B6.out.setCell (by simp; omega) _).setCell (by simp; omega) _⟩
end Go.Proofs.Ytbfabnpcahinfaa
