/- The simplest number between two, by the program: all cases. -/
import Derived.Test.YtbfabnpcahinfaaDyJ
namespace Go.Proofs.Ytbfabnpcahinfaa
open Go.RowKit

def ngV (m : Int × Int × Bool) : Int × Int × Bool := (-m.1, m.2.1, m.2.2)
def simV (t p u q : Int) : Int × Int × Bool :=
  if gd t p && gd u q && decide (sc 16 t p < sc 16 u q) then (if t < 0 then (if 0 < u then (0, 0, true) else ngV (btF (sc 16 (-u) q) (sc 16 (-t) p) 17)) else btF (sc 16 t p) (sc 16 u q) 17) else (0, 0, false)
theorem gd_neg {t p : Int} (h : gd t p = true) : gd (-t) p = true := by
  rw [gd_iff] at h ⊢
  have e : (-t).tmod 2 = -(t.tmod 2) := Int.neg_tmod ..
  refine ⟨by omega, by omega, h.2.2.1, h.2.2.2.1, ?_⟩
  rcases h.2.2.2.2 with h | h
  · exact .inl h
  · exact .inr (by rw [e]; omega)
theorem btF_bd (A B : Int) : ∀ f, -1000000 ≤ (btF A B f).1 ∧ (btF A B f).1 ≤ 1000000
  | 0 => by unfold btF; exact ⟨by decide, by decide⟩
  | f + 1 => by
    unfold btF
    split
    · unfold lowV
      split
      · rename_i h
        have := gd_rng h
        exact ⟨this.1, this.2.1⟩
      · exact ⟨by decide, by decide⟩
    · exact btF_bd A B f
set_option maxHeartbeats 2000000 in
theorem c_SB_no (t p u q : Int) (c : Int) (ok : Bool) (w : World) (hcmp : cmpV t p u q = (c, ok)) (hno : ok = false ∨ 0 ≤ c) :
    Calls Try.prog 32 #[dv t p, dv u q] w fun e w' => e = .returned (rv (0, 0, false)) ∧ Below w.heap.size w w' := by
  have Hcmp := Lib.hid hcmp
  clear hcmp
  have hno2 : ok = false ∨ (ok = true ∧ 0 ≤ c) := by
    cases ok
    · exact .inl rfl
    · rcases hno with h | h
      · exact absurd h (by decide)
      · exact .inr ⟨rfl, h⟩
  clear hno
  rcases hno2 with rfl | ⟨rfl, hc⟩
  all_goals
    go_enter Try.func32, Try.ntmps32
    go_wp2_with fail
    refine (c_CompareDyadic _ _ _ _ _).mono ?_
    rintro e w1 ⟨rfl, b1⟩
    rw [Hcmp.out]
    have d4 : w1.cell? ⟨w.heap.size + 2, 0, none⟩ = some (.int .i64 0) := bkeep b1 _ _ (by simp [go_sem])
    have d5 : w1.cell? ⟨w.heap.size + 2, 1, none⟩ = some (.int .i64 0) := bkeep b1 _ _ (by simp [go_sem])
    have f1 : ∀ o, w1.frozen? ⟨w.heap.size + 2, o, none⟩ = false := fun o => ((bcell b1).2 _ _ (by simp)).trans (by simp [go_sem])
    have B1 : Below w.heap.size w w1 := Below.next (by go_grown) b1
    have BB := Lib.hid B1
    clear b1 B1
    go_wp2_with fail
    exact bodyPost_ret (res_rv _ _ rfl rfl rfl (two_set d4 d5).1 (two_set d4 d5).2) rfl ⟨rfl, (BB.out.setCell (by simp; omega) _).setCell (by simp; omega) _⟩
set_option maxHeartbeats 2000000 in
theorem c_SB_mid (t p u q : Int) (w : World) (hcmp : cmpV t p u q = (-1, true)) (ht : t < 0) (hu : 0 < u) :
    Calls Try.prog 32 #[dv t p, dv u q] w fun e w' => e = .returned (rv (0, 0, true)) ∧ Below w.heap.size w w' := by
  have Hcmp := Lib.hid hcmp
  clear hcmp
  go_enter Try.func32, Try.ntmps32
  go_wp2_with fail
  refine (c_CompareDyadic _ _ _ _ _).mono ?_
  rintro e w1 ⟨rfl, b1⟩
  rw [Hcmp.out]
  have d0 : w1.cell? ⟨w.heap.size, 0, none⟩ = some (.int .i64 t) := bkeep b1 _ _ (by simp [go_sem])
  have d2 : w1.cell? ⟨w.heap.size + 1, 0, none⟩ = some (.int .i64 u) := bkeep b1 _ _ (by simp [go_sem])
  have d4 : w1.cell? ⟨w.heap.size + 2, 0, none⟩ = some (.int .i64 0) := bkeep b1 _ _ (by simp [go_sem])
  have d5 : w1.cell? ⟨w.heap.size + 2, 1, none⟩ = some (.int .i64 0) := bkeep b1 _ _ (by simp [go_sem])
  have f1 : ∀ o, w1.frozen? ⟨w.heap.size + 2, o, none⟩ = false := fun o => ((bcell b1).2 _ _ (by simp)).trans (by simp [go_sem])
  have B1 : Below w.heap.size w w1 := Below.next (by go_grown) b1
  have BB := Lib.hid B1
  clear b1 B1
  go_wp2_with fail
  exact bodyPost_ret (res_rv _ _ rfl rfl rfl (two_set d4 d5).1 (two_set d4 d5).2) rfl ⟨rfl, (BB.out.setCell (by simp; omega) _).setCell (by simp; omega) _⟩
set_option maxHeartbeats 2000000 in
theorem c_SB_neg (t p u q : Int) (w : World) (hg : gd t p = true) (hg2 : gd u q = true) (hlt : sc 16 t p < sc 16 u q) (ht : t < 0) (hu : ¬ 0 < u) :
    Calls Try.prog 32 #[dv t p, dv u q] w fun e w' => e = .returned (rv (ngV (btF (sc 16 (-u) q) (sc 16 (-t) p) 17))) ∧ Below w.heap.size w w' := by
  have Hcmp : Hid (cmpV t p u q = (-1, true)) := Lib.hid (by simp [cmpV, hg, hg2, cmpI, hlt])
  have HP := Lib.hid (fun w => c_SB_pos (-u) q (-t) p w (gd_neg hg2) (gd_neg hg) (by omega) (by rw [sc_neg, sc_neg]; omega))
  obtain ⟨h1, h2, _, _⟩ := gd_rng hg
  obtain ⟨h3, h4, _, _⟩ := gd_rng hg2
  have hbd := btF_bd (sc 16 (-u) q) (sc 16 (-t) p) 17
  obtain ⟨m, Hm⟩ : ∃ m, Hid (btF (sc 16 (-u) q) (sc 16 (-t) p) 17 = m) := ⟨_, Lib.hid rfl⟩
  rw [Hm.out] at HP hbd
  rw [Hm.out]
  obtain ⟨x, y, ok⟩ := m
  obtain ⟨x0, x1⟩ := hbd
  have x0 : -1000000 ≤ x := x0
  have x1 : x ≤ 1000000 := x1
  clear hlt hg hg2
  go_enter Try.func32, Try.ntmps32
  go_wp2_with fail
  refine (c_CompareDyadic _ _ _ _ _).mono ?_
  rintro e w1 ⟨rfl, b1⟩
  rw [Hcmp.out]
  have d0 : w1.cell? ⟨w.heap.size, 0, none⟩ = some (.int .i64 t) := bkeep b1 _ _ (by simp [go_sem])
  have d1 : w1.cell? ⟨w.heap.size, 1, none⟩ = some (.int .i64 p) := bkeep b1 _ _ (by simp [go_sem])
  have d2 : w1.cell? ⟨w.heap.size + 1, 0, none⟩ = some (.int .i64 u) := bkeep b1 _ _ (by simp [go_sem])
  have d3 : w1.cell? ⟨w.heap.size + 1, 1, none⟩ = some (.int .i64 q) := bkeep b1 _ _ (by simp [go_sem])
  have d4 : w1.cell? ⟨w.heap.size + 2, 0, none⟩ = some (.int .i64 0) := bkeep b1 _ _ (by simp [go_sem])
  have d5 : w1.cell? ⟨w.heap.size + 2, 1, none⟩ = some (.int .i64 0) := bkeep b1 _ _ (by simp [go_sem])
  have f1 : ∀ o, w1.frozen? ⟨w.heap.size + 2, o, none⟩ = false := fun o => ((bcell b1).2 _ _ (by simp)).trans (by simp [go_sem])
  have B1 : Below w.heap.size w w1 := Below.next (by go_grown) b1
  have BB := Lib.hid B1
  have D4 := Lib.hid d4
  have D5 := Lib.hid d5
  have F1 := Lib.hid f1
  have hsz : w.heap.size + 2 < w1.heap.size := cell_lt d4
  clear b1 B1 d4 d5 f1
  go_wp2_with fail
  refine (HP.out _).mono ?_
  rintro e w2 ⟨rfl, b2⟩
  have e4 : w2.cell? ⟨w.heap.size + 2, 0, none⟩ = some (.int .i64 0) := bkeep b2 _ _ D4.out
  have e5 : w2.cell? ⟨w.heap.size + 2, 1, none⟩ = some (.int .i64 0) := bkeep b2 _ _ D5.out
  have g1 : ∀ o, w2.frozen? ⟨w.heap.size + 2, o, none⟩ = false := fun o => ((bcell b2).2 _ _ (cell_lt D4.out)).trans (F1.out o)
  have B2 := Lib.hid (Below.next BB.out b2)
  have hsz2 : w.heap.size + 2 < w2.heap.size := cell_lt e4
  clear b2 d0 d1 d2 d3
  go_wp2_with fail
  exact bodyPost_ret (res_rv _ _ rfl rfl rfl (alloc_keep _ (two_set e4 e5).1) (alloc_keep _ (two_set e4 e5).2)) rfl ⟨rfl, ((B2.out.setCell (by simp; omega) _).setCell (by simp; omega) _).alloc (by have := B2.out.size; simpa using this) _⟩
theorem c_SimplestBetween (t p u q : Int) (w : World) :
    Calls Try.prog 32 #[dv t p, dv u q] w fun e w' => e = .returned (rv (simV t p u q)) ∧ Below w.heap.size w w' := by
  by_cases hg : (gd t p && gd u q) = true
  · obtain ⟨g1, g2⟩ := Bool.and_eq_true_iff.1 hg
    by_cases hlt : sc 16 t p < sc 16 u q
    · have hcmp : cmpV t p u q = (-1, true) := by simp [cmpV, g1, g2, cmpI, hlt]
      by_cases ht : t < 0
      · by_cases hu : 0 < u
        · have e : simV t p u q = (0, 0, true) := by simp [simV, hg, hlt, ht, hu]
          rw [e]; exact c_SB_mid t p u q w hcmp ht hu
        · have e : simV t p u q = ngV (btF (sc 16 (-u) q) (sc 16 (-t) p) 17) := by simp [simV, hg, hlt, ht, hu]
          rw [e]; exact c_SB_neg t p u q w g1 g2 hlt ht hu
      · have e : simV t p u q = btF (sc 16 t p) (sc 16 u q) 17 := by simp [simV, hg, hlt, ht]
        rw [e]; exact c_SB_pos t p u q w g1 g2 (by omega) hlt
    · have e : simV t p u q = (0, 0, false) := by simp [simV, hlt]
      have hcmp : cmpV t p u q = (cmpI (sc 16 t p) (sc 16 u q), true) := by simp [cmpV, g1, g2]
      rw [e]
      refine c_SB_no t p u q _ _ w hcmp (.inr ?_)
      unfold cmpI
      rw [if_neg hlt]
      split <;> omega
  · have e : simV t p u q = (0, 0, false) := by simp [simV, hg]
    have hcmp : cmpV t p u q = (0, false) := by rw [cmpV, if_neg hg]
    rw [e]
    exact c_SB_no t p u q _ _ w hcmp (.inl rfl)
end Go.Proofs.Ytbfabnpcahinfaa
