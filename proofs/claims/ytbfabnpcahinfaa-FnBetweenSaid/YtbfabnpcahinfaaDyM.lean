/- The simplest number between two, by the reference: all cases. -/
import Derived.Test.YtbfabnpcahinfaaDyL
namespace Go.Proofs.Ytbfabnpcahinfaa
open Go.RowKit

set_option maxHeartbeats 400000 in
theorem s_l2Neg_big (t p : Int) (w : World) (h1 : -4611686018427387904 ≤ t) (h2 : t ≤ 4611686018427387904) :
    Calls Try.prog 44 #[dv t p] w fun e w' => e = .returned (dv (-t) p) ∧ Below w.heap.size w w' := by
  go_enter Try.func44, Try.ntmps44
  go_wp2
  exact bodyPost_ret (v := dv (-t) p) (by simp [results, Try.results44, go_sem]) rfl ⟨rfl, by go_grown⟩
theorem red_bd : ∀ (p : Nat) (t : Int), 0 ≤ t → 0 ≤ (red t p).1 ∧ (red t p).1 ≤ t
  | 0, t, h => by rw [red_zero]; exact ⟨h, Int.le_refl _⟩
  | p + 1, t, h => by
    by_cases e : t.tmod 2 = 0
    · rw [red_even e]
      have e2 : t.tdiv 2 = t / 2 := Int.tdiv_eq_ediv_of_nonneg h
      have := red_bd p (t.tdiv 2) (by rw [e2]; omega)
      rw [e2] at this ⊢
      omega
    · rw [red_odd e]; exact ⟨h, Int.le_refl _⟩
theorem l2S_bd {A B : Int} (hA : 0 ≤ A) (hA2 : A ≤ 65536065536) : ∀ f, 0 ≤ (l2S A B f).1 ∧ (l2S A B f).1 ≤ 65536065537
  | 0 => by unfold l2S; exact ⟨by decide, by decide⟩
  | f + 1 => by
    unfold l2S
    split
    · have hp : (0 : Int) < 2 ^ f := pow_pos f
      have h1 : 0 ≤ A / 2 ^ f := Int.ediv_nonneg hA (by omega)
      have h2 : A / 2 ^ f ≤ A := Int.ediv_le_self _ hA
      have := red_bd (16 - f) (A / 2 ^ f + 1) (by omega)
      exact ⟨this.1, by omega⟩
    · exact l2S_bd hA hA2 f
theorem l2B_bd {A B : Int} (hA : 0 ≤ A) (hA2 : A ≤ 65536065536) : 0 ≤ (l2B A B).1 ∧ (l2B A B).1 ≤ 65536065537 := by
  unfold l2B
  split
  · exact ⟨by show 0 ≤ A / 65536 + 1; omega, by show A / 65536 + 1 ≤ _; omega⟩
  · exact l2S_bd hA hA2 16
theorem l2B_pow (A B : Int) : ∀ f, 0 ≤ (l2S A B f).2
  | 0 => by unfold l2S; exact (by decide : (0 : Int) ≤ 17)
  | f + 1 => by
    unfold l2S
    split
    · exact Int.natCast_nonneg _
    · exact l2B_pow A B f
set_option maxHeartbeats 8000000 in
theorem s_l2B_neg (t p u q : Int) (w : World) (hg : gd t p = true) (hg2 : gd u q = true) (ht : t < 0) (hu : ¬ 0 < u) (hlt : sc 16 t p < sc 16 u q) :
    Calls Try.prog 54 #[dv t p, dv u q] w fun e w' => e = .returned (dv (-(l2B (sc 16 (-u) q) (sc 16 (-t) p)).1) (l2B (sc 16 (-u) q) (sc 16 (-t) p)).2) ∧ Below w.heap.size w w' := by
  have hA0 : 0 ≤ sc 16 (-u) q := by
    rcases Int.lt_or_le (sc 16 (-u) q) 0 with h | h
    · have := sc_lt.1 h; omega
    · exact h
  have hbd := l2B_bd (B := sc 16 (-t) p) hA0 (sc16_bd (gd_neg hg2)).2
  have HP := Lib.hid (fun w => s_l2B_pos (-u) q (-t) p w (gd_neg hg2) (gd_neg hg) (by omega) (by rw [sc_neg, sc_neg]; omega))
  obtain ⟨m, Hm⟩ : ∃ m, Hid (l2B (sc 16 (-u) q) (sc 16 (-t) p) = m) := ⟨_, Lib.hid rfl⟩
  rw [Hm.out] at HP hbd
  rw [Hm.out]
  obtain ⟨x, y⟩ := m
  obtain ⟨xb0, xb1⟩ := hbd
  have xb0 : 0 ≤ x := xb0
  have xb1 : x ≤ 65536065537 := xb1
  obtain ⟨g1, g2, g3, g4⟩ := gd_rng hg
  obtain ⟨k1, k2, k3, k4⟩ := gd_rng hg2
  have bt0 : -4611686018427387904 ≤ t := by omega
  have bt1 : t ≤ 4611686018427387904 := by omega
  have bu0 : -4611686018427387904 ≤ u := by omega
  have bu1 : u ≤ 4611686018427387904 := by omega
  have bx0 : -4611686018427387904 ≤ x := by omega
  have bx1 : x ≤ 4611686018427387904 := by omega
  have e0 : sc 24 0 0 = 0 := by simp [sc]
  have HL1 := Lib.hid (fun w => s_l2Less u q 0 0 w (by omega) (by omega) k3 k4 (by decide) (by decide) (by decide) (by decide))
  rw [e0] at HL1
  have hq0 : Hid (u = 0 → q = 0) := Lib.hid (fun h => by
    subst h
    rcases (gd_iff.1 hg2).2.2.2.2 with h | h
    · exact h
    · exact absurd (by decide) h)
  have hsl := Lib.hid (@sc_lt 24 u q)
  clear hlt hg hg2 hA0 e0
  by_cases hu0 : u < 0
  · rw [show decide (sc 24 u q < 0) = true from decide_eq_true (hsl.out.2 hu0)] at HL1
    clear hsl hq0
    go_enter Try.func54, Try.ntmps54
    go_wp2_with fail
    refine (HL1.out _).mono ?_
    rintro e w2 ⟨rfl, b1⟩
    have d0 : w2.cell? ⟨w.heap.size, 0, none⟩ = some (.int .i64 t) := bkeep b1 _ _ (by simp [go_sem])
    have d1 : w2.cell? ⟨w.heap.size, 1, none⟩ = some (.int .i64 p) := bkeep b1 _ _ (by simp [go_sem])
    have d2 : w2.cell? ⟨w.heap.size + 1, 0, none⟩ = some (.int .i64 u) := bkeep b1 _ _ (by simp [go_sem])
    have d3 : w2.cell? ⟨w.heap.size + 1, 1, none⟩ = some (.int .i64 q) := bkeep b1 _ _ (by simp [go_sem])
    have d4 : w2.cell? ⟨w.heap.size + 2, 0, none⟩ = some (.int .i64 0) := bkeep b1 _ _ (by simp [go_sem])
    have d5 : w2.cell? ⟨w.heap.size + 2, 1, none⟩ = some (.int .i64 0) := bkeep b1 _ _ (by simp [go_sem])
    have f1 : ∀ o, w2.frozen? ⟨w.heap.size + 2, o, none⟩ = false := fun o => ((bcell b1).2 _ _ (by simp)).trans (by simp [go_sem])
    have b2' : Below w.heap.size w w2 := Below.next (by go_grown) b1
    have n1 : ¬ (w.heap.size + 1 + 1 = w.heap.size) := by omega
    have n2 : ¬ (w.heap.size = w.heap.size + 1 + 1) := by omega
    have n3 : ¬ (w.heap.size + 2 = w.heap.size) := by omega
    have n4 : ¬ (w.heap.size = w.heap.size + 2) := by omega
    clear b1
    go_upto_region 2 with fail
    go_region_held3 (fun w' => w'.cell? ⟨w.heap.size, 0, none⟩ = some (.int .i64 t) ∧ w'.cell? ⟨w.heap.size, 1, none⟩ = some (.int .i64 p) ∧ w'.cell? ⟨w.heap.size + 1, 0, none⟩ = some (.int .i64 u) ∧ w'.cell? ⟨w.heap.size + 1, 1, none⟩ = some (.int .i64 q))
      (go_keep)
      (first | (go_at_call 44; refine (s_l2Neg_big _ _ _ (by assumption) (by assumption)).mono ?_; rintro e w' ⟨rfl, b⟩; have hk := bkeep b; have x0 := hk ⟨w.heap.size + 2, 0, none⟩ (.int .i64 0) (by simp [*]); have x1 := hk ⟨w.heap.size + 2, 1, none⟩ (.int .i64 0) (by simp [*]); have y0 : ∀ o, w'.frozen? ⟨w.heap.size + 2, o, none⟩ = false := fun o => ((bcell b).2 _ _ (lt_of_cell (o := 0) (u := .int .i64 0) (by simp [*]))).trans (by simp [*])) | (go_at_call 54; refine (HP.out _).mono ?_; rintro e w' ⟨rfl, b⟩; have hk := bkeep b; have x0 := hk ⟨w.heap.size + 2, 0, none⟩ (.int .i64 0) (by simp [*]); have x1 := hk ⟨w.heap.size + 2, 1, none⟩ (.int .i64 0) (by simp [*]); have y0 : ∀ o, w'.frozen? ⟨w.heap.size + 2, o, none⟩ = false := fun o => ((bcell b).2 _ _ (lt_of_cell (o := 0) (u := .int .i64 0) (by simp [*]))).trans (by simp [*])))
    all_goals
      go_wp2_with fail
      refine bodyPost_ret (res_dv _ _ rfl rfl (two_set (b := w.heap.size + 2) x0 x1).1 (two_set (b := w.heap.size + 2) x0 x1).2) rfl ⟨rfl, ?_⟩
      refine ((?_ : Below w.heap.size w w').setCell (by simp; omega) _).setCell (by simp; omega) _
      refine Below.next ?_ (by assumption)
      refine Below.next ?_ (by assumption)
      refine Below.next ?_ (by assumption)
      refine Below.next ?_ (by assumption)
      exact b2'.drew
  · have hu1 : u = 0 := by omega
    have hq1 := hq0.out hu1
    subst hu1 hq1
    rw [show decide (sc 24 0 0 < 0) = false from by decide] at HL1
    clear hsl hq0 hu0 hu
    go_enter Try.func54, Try.ntmps54
    go_wp2_with fail
    refine (HL1.out _).mono ?_
    rintro e w2 ⟨rfl, b1⟩
    have d0 : w2.cell? ⟨w.heap.size, 0, none⟩ = some (.int .i64 t) := bkeep b1 _ _ (by simp [go_sem])
    have d1 : w2.cell? ⟨w.heap.size, 1, none⟩ = some (.int .i64 p) := bkeep b1 _ _ (by simp [go_sem])
    have d2 : w2.cell? ⟨w.heap.size + 1, 0, none⟩ = some (.int .i64 0) := bkeep b1 _ _ (by simp [go_sem])
    have d3 : w2.cell? ⟨w.heap.size + 1, 1, none⟩ = some (.int .i64 0) := bkeep b1 _ _ (by simp [go_sem])
    have d4 : w2.cell? ⟨w.heap.size + 2, 0, none⟩ = some (.int .i64 0) := bkeep b1 _ _ (by simp [go_sem])
    have d5 : w2.cell? ⟨w.heap.size + 2, 1, none⟩ = some (.int .i64 0) := bkeep b1 _ _ (by simp [go_sem])
    have f1 : ∀ o, w2.frozen? ⟨w.heap.size + 2, o, none⟩ = false := fun o => ((bcell b1).2 _ _ (by simp)).trans (by simp [go_sem])
    have b2' : Below w.heap.size w w2 := Below.next (by go_grown) b1
    have n1 : ¬ (w.heap.size + 1 + 1 = w.heap.size) := by omega
    have n2 : ¬ (w.heap.size = w.heap.size + 1 + 1) := by omega
    have n3 : ¬ (w.heap.size + 2 = w.heap.size) := by omega
    have n4 : ¬ (w.heap.size = w.heap.size + 2) := by omega
    clear b1
    go_upto_region 2 with fail
    go_region_held3 (fun w' => w'.cell? ⟨w.heap.size, 0, none⟩ = some (.int .i64 t) ∧ w'.cell? ⟨w.heap.size, 1, none⟩ = some (.int .i64 p) ∧ w'.cell? ⟨w.heap.size + 1, 0, none⟩ = some (.int .i64 0) ∧ w'.cell? ⟨w.heap.size + 1, 1, none⟩ = some (.int .i64 0))
      (go_keep)
      (first | (go_at_call 44; refine (s_l2Neg_big _ _ _ (by assumption) (by assumption)).mono ?_; rintro e w' ⟨rfl, b⟩; have hk := bkeep b; have x0 := hk ⟨w.heap.size + 2, 0, none⟩ (.int .i64 0) (by simp [*]); have x1 := hk ⟨w.heap.size + 2, 1, none⟩ (.int .i64 0) (by simp [*]); have y0 : ∀ o, w'.frozen? ⟨w.heap.size + 2, o, none⟩ = false := fun o => ((bcell b).2 _ _ (lt_of_cell (o := 0) (u := .int .i64 0) (by simp [*]))).trans (by simp [*])) | (go_at_call 54; refine (HP.out _).mono ?_; rintro e w' ⟨rfl, b⟩; have hk := bkeep b; have x0 := hk ⟨w.heap.size + 2, 0, none⟩ (.int .i64 0) (by simp [*]); have x1 := hk ⟨w.heap.size + 2, 1, none⟩ (.int .i64 0) (by simp [*]); have y0 : ∀ o, w'.frozen? ⟨w.heap.size + 2, o, none⟩ = false := fun o => ((bcell b).2 _ _ (lt_of_cell (o := 0) (u := .int .i64 0) (by simp [*]))).trans (by simp [*])))
    all_goals
      go_wp2_with fail
      refine bodyPost_ret (res_dv _ _ rfl rfl (two_set (b := w.heap.size + 2) x0 x1).1 (two_set (b := w.heap.size + 2) x0 x1).2) rfl ⟨rfl, ?_⟩
      refine ((?_ : Below w.heap.size w w').setCell (by simp; omega) _).setCell (by simp; omega) _
      refine Below.next ?_ (by assumption)
      refine Below.next ?_ (by assumption)
      refine Below.next ?_ (by assumption)
      refine Below.next ?_ (by assumption)
      exact b2'.drew
end Go.Proofs.Ytbfabnpcahinfaa
