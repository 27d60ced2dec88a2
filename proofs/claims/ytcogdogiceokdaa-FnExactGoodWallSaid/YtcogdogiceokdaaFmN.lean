/- The slope between two points of a wall: the reference's l11Slope (printed by gen_wall.py). -/
import Derived.Test.YtcogdogiceokdaaFmM
import Derived.Test.YtcogdogiceokdaaDyF
import Derived.Test.YtcogdogiceokdaaWlP
import Derived.Deep.DeepCutAuto
import Derived.Deep.RegionWith
namespace Go.Proofs.Ytcogdogiceokdaa
open Go.RowKit

section
variable {W w' : World} {n : Nat} {T : TypeId}
theorem size2 (w : World) (o o' : Obj) : ((w.alloc o).alloc o').heap.size = w.heap.size + 1 + 1 := by simp
theorem nw0 (hk : ∀ a v, (W.alloc (.cells #[.int .i64 0, .int .i64 0] T)).cell? a = some v → w'.cell? a = some v) (hs : W.heap.size = n) : w'.cell? ⟨n, 0, none⟩ = some (.int .i64 0) := by
  subst hs; exact hk _ _ (by simp [go_sem])
theorem nw1 (hk : ∀ a v, (W.alloc (.cells #[.int .i64 0, .int .i64 0] T)).cell? a = some v → w'.cell? a = some v) (hs : W.heap.size = n) : w'.cell? ⟨n, 1, none⟩ = some (.int .i64 0) := by
  subst hs; exact hk _ _ (by simp [go_sem])
theorem nwf (b : Below (W.alloc (.cells #[.int .i64 0, .int .i64 0] T)).heap.size (W.alloc (.cells #[.int .i64 0, .int .i64 0] T)) w') (hs : W.heap.size = n) : ∀ o, w'.frozen? ⟨n, o, none⟩ = false := by
  subst hs; exact fun o => ((bcell b).2 _ _ (by simp)).trans (by simp [go_sem])
theorem nv0 (hk : ∀ a v, (W.alloc (.cells #[.int .i64 0, .int .i64 0] T)).drew.cell? a = some v → w'.cell? a = some v) (hs : W.heap.size = n) : w'.cell? ⟨n, 0, none⟩ = some (.int .i64 0) := by
  subst hs; exact hk _ _ (by simp [go_sem])
theorem nv1 (hk : ∀ a v, (W.alloc (.cells #[.int .i64 0, .int .i64 0] T)).drew.cell? a = some v → w'.cell? a = some v) (hs : W.heap.size = n) : w'.cell? ⟨n, 1, none⟩ = some (.int .i64 0) := by
  subst hs; exact hk _ _ (by simp [go_sem])
theorem nvf (b : Below (W.alloc (.cells #[.int .i64 0, .int .i64 0] T)).drew.heap.size (W.alloc (.cells #[.int .i64 0, .int .i64 0] T)).drew w') (hs : W.heap.size = n) : ∀ o, w'.frozen? ⟨n, o, none⟩ = false := by
  subst hs; exact fun o => ((bcell b).2 _ _ (by simp)).trans (by simp [go_sem])
theorem below_set {k : Nat} {x y : Value} (B : Below k W w') (h : k ≤ n) : Below k W ((w'.setCell ⟨n, 0, none⟩ x).setCell ⟨n, 1, none⟩ y) := (B.setCell h _).setCell h _
theorem nwc {v : Value} (b : Below W.heap.size W w') (x : W.cell? ⟨n, 0, none⟩ = some v) (y : ∀ o, W.frozen? ⟨n, o, none⟩ = false) : ∀ o, w'.frozen? ⟨n, o, none⟩ = false :=
  fun o => ((bcell b).2 _ _ (lt_of_cell x)).trans (y o)
end

theorem s_l2Neg_big (t p : Int) (w : World) (h1 : -4611686018427387904 ≤ t) (h2 : t ≤ 4611686018427387904) :
    Calls Try.prog 57 #[dv t p] w fun e w' => e = .returned (dv (-t) p) ∧ Below w.heap.size w w' := by
  go_enter Try.func57, Try.ntmps57
  go_wp2
  exact bodyPost_ret (v := dv (-t) p) (by simp [results, Try.results57, go_sem]) rfl ⟨rfl, by go_grown⟩
theorem gd_negW {t p : Int} (h : gd t p = true) : gd (-t) p = true := by
  rw [gd_iff] at h ⊢
  rw [Int.neg_tmod]
  omega
theorem red_neg : ∀ (p : Nat) (t : Int), red (-t) p = (-(red t p).1, (red t p).2)
  | 0, t => by rw [red_zero, red_zero]
  | p + 1, t => by
    by_cases h : t.tmod 2 = 0
    · rw [red_even h, red_even (by rw [Int.neg_tmod, h]; rfl), Int.neg_tdiv]
      exact red_neg p _
    · rw [red_odd h, red_odd (by rw [Int.neg_tmod]; omega)]
theorem red_injW {x y : Int} (h : red x 16 = red y 16) : x = y := by
  rw [← red_val x 16, ← red_val y 16, h]
theorem red_topW {x : Int} : (red x 16).1 = 0 ↔ x = 0 := by
  constructor
  · intro h
    rw [← red_val x 16, h, Int.zero_mul]
  · intro h
    have := red_val x 16
    rw [h] at this ⊢
    have hp := pow_pos (16 - (red 0 16).2)
    rcases Int.mul_eq_zero.1 this with h1 | h1
    · exact h1
    · omega
theorem red_negW {x y : Int} : (red x 16).1 = -(red y 16).1 ∧ (red x 16).2 = (red y 16).2 ↔ x = -y := by
  constructor
  · rintro ⟨h1, h2⟩
    apply red_injW
    rw [red_neg, ← h1, ← h2]
  · intro h
    rw [h, red_neg]
    exact ⟨rfl, rfl⟩
theorem red_bdW {x : Int} (h1 : -4611686018427387904 ≤ x) (h2 : x ≤ 4611686018427387904) : ∀ p : Nat, -4611686018427387904 ≤ (red x p).1 ∧ (red x p).1 ≤ 4611686018427387904 := by
  intro p
  induction p generalizing x with
  | zero => rw [red_zero]; exact ⟨h1, h2⟩
  | succ p ih =>
    by_cases h : x.tmod 2 = 0
    · rw [red_even h]
      have hd : x.tdiv 2 * 2 = x := by
        have := Int.mul_tdiv_add_tmod x 2
        omega
      exact ih (by omega) (by omega)
    · rw [red_odd h]; exact ⟨h1, h2⟩

set_option maxRecDepth 100000 in
set_option maxHeartbeats 3200000 in
theorem s_l11Slope (a1 a2 v1 v2 b1 b2 u1 u2 : Int) (w : World) (ga : gd a1 a2 = true) (gv : gd v1 v2 = true) (gb : gd b1 b2 = true) (gu : gd u1 u2 = true) :
    Calls Try.prog 45 #[pv a1 a2 v1 v2, pv b1 b2 u1 u2] w fun e w' => e = .returned (.int .i64 (slp (sc 16 a1 a2, sc 16 v1 v2) (sc 16 b1 b2, sc 16 u1 u2))) ∧ Below w.heap.size w w' := by
  have ra := gd_rng ga
  have rv := gd_rng gv
  have HN := Lib.hid (fun W => s_l2Neg a1 a2 W (by omega) (by omega))
  have HN2 := Lib.hid (fun W => s_l2Neg v1 v2 W (by omega) (by omega))
  have HA := Lib.hid (fun W => s_l2Add b1 b2 (-a1) a2 W gb (gd_negW ga))
  have HA2 := Lib.hid (fun W => s_l2Add u1 u2 (-v1) v2 W gu (gd_negW gv))
  obtain ⟨D, hD⟩ : ∃ D, sc 16 b1 b2 + sc 16 (-a1) a2 = D := ⟨_, rfl⟩
  obtain ⟨E, hE⟩ : ∃ E, sc 16 u1 u2 + sc 16 (-v1) v2 = E := ⟨_, rfl⟩
  have bb := sc_bd (n := 16) (t := b1) (p := b2) (by have := gd_rng gb; omega) (by have := gd_rng gb; omega)
  have ba := sc_bd (n := 16) (t := a1) (p := a2) (by omega) (by omega)
  have hsl : Hid (slp (sc 16 a1 a2, sc 16 v1 v2) (sc 16 b1 b2, sc 16 u1 u2) = if E = 0 then 0 else if E = D then 1 else if E = -D then -1 else 2) := Lib.hid (by
    unfold slp
    simp only
    rw [sc_neg] at hD hE
    rw [show sc 16 u1 u2 - sc 16 v1 v2 = E by omega, show sc 16 b1 b2 - sc 16 a1 a2 = D by omega])
  obtain ⟨R, hR⟩ : ∃ R, Hid (slp (sc 16 a1 a2, sc 16 v1 v2) (sc 16 b1 b2, sc 16 u1 u2) = R) := ⟨_, Lib.hid rfl⟩
  rw [hR.out]
  have hRI : Hid (R = if E = 0 then 0 else if E = D then 1 else if E = -D then -1 else 2) := Lib.hid (by rw [← hR.out, hsl.out])
  rw [hD] at HA
  rw [hE] at HA2
  rw [sc_neg] at hD
  have hDb : -4611686018427387904 ≤ D ∧ D ≤ 4611686018427387904 := by simp at bb ba; omega
  have hrb := red_bdW hDb.1 hDb.2 16
  have h0 : Hid ((red E 16).1 = 0 ↔ E = 0) := Lib.hid red_topW
  have h1 : Hid (red E 16 = red D 16 ↔ E = D) := Lib.hid ⟨red_injW, fun h => by rw [h]⟩
  have h2 : Hid ((red E 16).1 = -(red D 16).1 ∧ (red E 16).2 = (red D 16).2 ↔ E = -D) := Lib.hid red_negW
  obtain ⟨rd, hrd⟩ : ∃ r, red D 16 = r := ⟨_, rfl⟩
  obtain ⟨re, hre⟩ : ∃ r, red E 16 = r := ⟨_, rfl⟩
  rw [hrd] at HA h1 h2 hrb
  rw [hre] at HA2 h0 h1 h2
  obtain ⟨d1', d2'⟩ := rd
  obtain ⟨e1', e2'⟩ := re
  simp only at HA HA2 h0 h1 h2 hrb
  obtain ⟨hrb1, hrb2⟩ := hrb
  have HN3 := Lib.hid (fun W => s_l2Neg_big d1' d2' W hrb1 hrb2)
  clear hD hE hrd hre bb ba hDb ra rv ga gv gb gu hsl hR hrb1 hrb2
  go_enter Try.func45, Try.ntmps45
  go_upto_region 1 with fail
  go_cut [5] (fun v5 wx => ∃ g : Nat, v5 = .pointer (some ⟨g, 0, none⟩) ∧ wx.cell? ⟨g, 0, none⟩ = some (.int .i64 d1') ∧ wx.cell? ⟨g, 1, none⟩ = some (.int .i64 d2') ∧ wx.cell? ⟨w.heap.size, 0, none⟩ = some (.int .i64 a1) ∧ wx.cell? ⟨w.heap.size, 1, none⟩ = some (.int .i64 a2) ∧ wx.cell? ⟨w.heap.size, 2, none⟩ = some (.int .i64 v1) ∧ wx.cell? ⟨w.heap.size, 3, none⟩ = some (.int .i64 v2) ∧ wx.cell? ⟨w.heap.size + 1, 0, none⟩ = some (.int .i64 b1) ∧ wx.cell? ⟨w.heap.size + 1, 1, none⟩ = some (.int .i64 b2) ∧ wx.cell? ⟨w.heap.size + 1, 2, none⟩ = some (.int .i64 u1) ∧ wx.cell? ⟨w.heap.size + 1, 3, none⟩ = some (.int .i64 u2) ∧ Below w.heap.size w wx)
  case first =>
    go_region_held3 (fun w' => w'.cell? ⟨w.heap.size, 0, none⟩ = some (.int .i64 a1) ∧ w'.cell? ⟨w.heap.size, 1, none⟩ = some (.int .i64 a2) ∧ w'.cell? ⟨w.heap.size, 2, none⟩ = some (.int .i64 v1) ∧ w'.cell? ⟨w.heap.size, 3, none⟩ = some (.int .i64 v2) ∧ w'.cell? ⟨w.heap.size + 1, 0, none⟩ = some (.int .i64 b1) ∧ w'.cell? ⟨w.heap.size + 1, 1, none⟩ = some (.int .i64 b2) ∧ w'.cell? ⟨w.heap.size + 1, 2, none⟩ = some (.int .i64 u1) ∧ w'.cell? ⟨w.heap.size + 1, 3, none⟩ = some (.int .i64 u2)) (simp [go_sem, alloc_keep, setCell_keep, *])
      (first | (go_at_call 57; refine (HN.out _).mono ?_; rintro e w1 ⟨rfl, b⟩; have hk := bkeep b; have d0 : w1.cell? ⟨w.heap.size, 0, none⟩ = some (.int .i64 a1) := hk _ _ (by first | assumption | (simp [go_sem])); have d1 : w1.cell? ⟨w.heap.size, 1, none⟩ = some (.int .i64 a2) := hk _ _ (by first | assumption | (simp [go_sem])); have d2 : w1.cell? ⟨w.heap.size, 2, none⟩ = some (.int .i64 v1) := hk _ _ (by first | assumption | (simp [go_sem])); have d3 : w1.cell? ⟨w.heap.size, 3, none⟩ = some (.int .i64 v2) := hk _ _ (by first | assumption | (simp [go_sem])); have d4 : w1.cell? ⟨w.heap.size + 1, 0, none⟩ = some (.int .i64 b1) := hk _ _ (by first | assumption | (simp [go_sem])); have d5 : w1.cell? ⟨w.heap.size + 1, 1, none⟩ = some (.int .i64 b2) := hk _ _ (by first | assumption | (simp [go_sem])); have d6 : w1.cell? ⟨w.heap.size + 1, 2, none⟩ = some (.int .i64 u1) := hk _ _ (by first | assumption | (simp [go_sem])); have d7 : w1.cell? ⟨w.heap.size + 1, 3, none⟩ = some (.int .i64 u2) := hk _ _ (by first | assumption | (simp [go_sem])); have la : w.heap.size + 1 < w1.heap.size := lt_of_cell d4; have l1 : ¬ w1.heap.size = w.heap.size := (by omega); have l2 : ¬ w.heap.size = w1.heap.size := (by omega); have l3 : ¬ w1.heap.size = w.heap.size + 1 := (by omega); have l4 : ¬ w.heap.size + 1 = w1.heap.size := (by omega); (try (have y0 := nwc b x0 y0; have x1 := hk _ _ x1; have x0 := hk _ _ x0)); (try (have x0 := nv0 (n := w.heap.size + 1 + 1) hk (size2 w _ _); have x1 := nv1 (n := w.heap.size + 1 + 1) hk (size2 w _ _); have y0 := nvf (n := w.heap.size + 1 + 1) b (size2 w _ _))); have B : Below w.heap.size w w1 := Below.next (by first | assumption | exact B.drew | exact (B.alloc (by omega) _).drew | go_grown) b) | (go_at_call 56; refine (HA.out _).mono ?_; rintro e w2 ⟨rfl, b⟩; have hk := bkeep b; have d0 : w2.cell? ⟨w.heap.size, 0, none⟩ = some (.int .i64 a1) := (by first | exact hk _ _ d0 | exact hk _ _ (alloc_keep _ d0)); have d1 : w2.cell? ⟨w.heap.size, 1, none⟩ = some (.int .i64 a2) := (by first | exact hk _ _ d1 | exact hk _ _ (alloc_keep _ d1)); have d2 : w2.cell? ⟨w.heap.size, 2, none⟩ = some (.int .i64 v1) := (by first | exact hk _ _ d2 | exact hk _ _ (alloc_keep _ d2)); have d3 : w2.cell? ⟨w.heap.size, 3, none⟩ = some (.int .i64 v2) := (by first | exact hk _ _ d3 | exact hk _ _ (alloc_keep _ d3)); have d4 : w2.cell? ⟨w.heap.size + 1, 0, none⟩ = some (.int .i64 b1) := (by first | exact hk _ _ d4 | exact hk _ _ (alloc_keep _ d4)); have d5 : w2.cell? ⟨w.heap.size + 1, 1, none⟩ = some (.int .i64 b2) := (by first | exact hk _ _ d5 | exact hk _ _ (alloc_keep _ d5)); have d6 : w2.cell? ⟨w.heap.size + 1, 2, none⟩ = some (.int .i64 u1) := (by first | exact hk _ _ d6 | exact hk _ _ (alloc_keep _ d6)); have d7 : w2.cell? ⟨w.heap.size + 1, 3, none⟩ = some (.int .i64 u2) := (by first | exact hk _ _ d7 | exact hk _ _ (alloc_keep _ d7)); have la : w.heap.size + 1 < w2.heap.size := lt_of_cell d4; have l1 : ¬ w2.heap.size = w.heap.size := (by omega); have l2 : ¬ w.heap.size = w2.heap.size := (by omega); have l3 : ¬ w2.heap.size = w.heap.size + 1 := (by omega); have l4 : ¬ w.heap.size + 1 = w2.heap.size := (by omega); (try (have y0 := nwc b x0 y0; have x1 := hk _ _ x1; have x0 := hk _ _ x0)); (try (have x0 := nw0 (n := w1.heap.size) hk rfl; have x1 := nw1 (n := w1.heap.size) hk rfl; have y0 := nwf (n := w1.heap.size) b rfl)); have B : Below w.heap.size w w2 := Below.next (by first | assumption | exact B.alloc (by omega) _ | go_grown) b))
    all_goals
      go_wp2_with fail
      go_meet
      refine ⟨_, rfl, ?_, ?_, ?_, ?_, ?_, ?_, ?_, ?_, ?_, ?_, ?_⟩
      · first | exact (set_two x0 x1).1 | (simp [go_sem])
      · first | exact (set_two x0 x1).2 | (simp [go_sem])
      iterate 8 (first | assumption | (simp [go_sem, alloc_keep, setCell_keep, *]))
      · first | exact below_set B (by omega) | exact B.alloc (by omega) _
  case rest =>
    obtain ⟨g, rfl, c0, c1, d0, d1, d2, d3, d4, d5, d6, d7, B⟩ := hcut
    have lg : g < wc.heap.size := lt_of_cell c0
    have la : w.heap.size + 1 < wc.heap.size := lt_of_cell d4
    have l1 : ¬ wc.heap.size = w.heap.size := (by omega)
    have l2 : ¬ w.heap.size = wc.heap.size := (by omega)
    have l3 : ¬ wc.heap.size = w.heap.size + 1 := (by omega)
    have l4 : ¬ w.heap.size + 1 = wc.heap.size := (by omega)
    have l5 : ¬ wc.heap.size = g := (by omega)
    have l6 : ¬ g = wc.heap.size := (by omega)
    clear HN HA
    have HN := HN2
    have HA := HA2
    clear HN2 HA2
    go_upto_region 2 with fail
    go_cut [6] (fun v6 wx => ∃ g' : Nat, v6 = .pointer (some ⟨g', 0, none⟩) ∧ wx.cell? ⟨g', 0, none⟩ = some (.int .i64 e1') ∧ wx.cell? ⟨g', 1, none⟩ = some (.int .i64 e2') ∧ wx.cell? ⟨g, 0, none⟩ = some (.int .i64 d1') ∧ wx.cell? ⟨g, 1, none⟩ = some (.int .i64 d2') ∧ Below w.heap.size w wx)
    case first =>
      go_region_held3 (fun w' => w'.cell? ⟨w.heap.size, 0, none⟩ = some (.int .i64 a1) ∧ w'.cell? ⟨w.heap.size, 1, none⟩ = some (.int .i64 a2) ∧ w'.cell? ⟨w.heap.size, 2, none⟩ = some (.int .i64 v1) ∧ w'.cell? ⟨w.heap.size, 3, none⟩ = some (.int .i64 v2) ∧ w'.cell? ⟨w.heap.size + 1, 0, none⟩ = some (.int .i64 b1) ∧ w'.cell? ⟨w.heap.size + 1, 1, none⟩ = some (.int .i64 b2) ∧ w'.cell? ⟨w.heap.size + 1, 2, none⟩ = some (.int .i64 u1) ∧ w'.cell? ⟨w.heap.size + 1, 3, none⟩ = some (.int .i64 u2) ∧ w'.cell? ⟨g, 0, none⟩ = some (.int .i64 d1') ∧ w'.cell? ⟨g, 1, none⟩ = some (.int .i64 d2')) (simp [go_sem, alloc_keep, setCell_keep, *])
        (first | (go_at_call 57; refine (HN.out _).mono ?_; rintro e w1 ⟨rfl, b⟩; have hk := bkeep b; have d0 : w1.cell? ⟨w.heap.size, 0, none⟩ = some (.int .i64 a1) := (by first | exact hk _ _ d0 | exact hk _ _ (alloc_keep _ d0)); have d1 : w1.cell? ⟨w.heap.size, 1, none⟩ = some (.int .i64 a2) := (by first | exact hk _ _ d1 | exact hk _ _ (alloc_keep _ d1)); have d2 : w1.cell? ⟨w.heap.size, 2, none⟩ = some (.int .i64 v1) := (by first | exact hk _ _ d2 | exact hk _ _ (alloc_keep _ d2)); have d3 : w1.cell? ⟨w.heap.size, 3, none⟩ = some (.int .i64 v2) := (by first | exact hk _ _ d3 | exact hk _ _ (alloc_keep _ d3)); have d4 : w1.cell? ⟨w.heap.size + 1, 0, none⟩ = some (.int .i64 b1) := (by first | exact hk _ _ d4 | exact hk _ _ (alloc_keep _ d4)); have d5 : w1.cell? ⟨w.heap.size + 1, 1, none⟩ = some (.int .i64 b2) := (by first | exact hk _ _ d5 | exact hk _ _ (alloc_keep _ d5)); have d6 : w1.cell? ⟨w.heap.size + 1, 2, none⟩ = some (.int .i64 u1) := (by first | exact hk _ _ d6 | exact hk _ _ (alloc_keep _ d6)); have d7 : w1.cell? ⟨w.heap.size + 1, 3, none⟩ = some (.int .i64 u2) := (by first | exact hk _ _ d7 | exact hk _ _ (alloc_keep _ d7)); have la : w.heap.size + 1 < w1.heap.size := lt_of_cell d4; have l1 : ¬ w1.heap.size = w.heap.size := (by omega); have l2 : ¬ w.heap.size = w1.heap.size := (by omega); have l3 : ¬ w1.heap.size = w.heap.size + 1 := (by omega); have l4 : ¬ w.heap.size + 1 = w1.heap.size := (by omega); have c0 : w1.cell? ⟨g, 0, none⟩ = some (.int .i64 d1') := (by first | exact hk _ _ c0 | exact hk _ _ (alloc_keep _ c0)); have c1 : w1.cell? ⟨g, 1, none⟩ = some (.int .i64 d2') := (by first | exact hk _ _ c1 | exact hk _ _ (alloc_keep _ c1)); have lg : g < w1.heap.size := lt_of_cell c0; have l5 : ¬ w1.heap.size = g := (by omega); have l6 : ¬ g = w1.heap.size := (by omega); (try (have y0 := nwc b x0 y0; have x1 := hk _ _ x1; have x0 := hk _ _ x0)); (try (have x0 := nv0 (n := wc.heap.size) hk rfl; have x1 := nv1 (n := wc.heap.size) hk rfl; have y0 := nvf (n := wc.heap.size) b rfl)); have B : Below w.heap.size w w1 := Below.next (by first | assumption | exact B.drew | exact (B.alloc (by omega) _).drew | go_grown) b) | (go_at_call 56; refine (HA.out _).mono ?_; rintro e w2 ⟨rfl, b⟩; have hk := bkeep b; have d0 : w2.cell? ⟨w.heap.size, 0, none⟩ = some (.int .i64 a1) := (by first | exact hk _ _ d0 | exact hk _ _ (alloc_keep _ d0)); have d1 : w2.cell? ⟨w.heap.size, 1, none⟩ = some (.int .i64 a2) := (by first | exact hk _ _ d1 | exact hk _ _ (alloc_keep _ d1)); have d2 : w2.cell? ⟨w.heap.size, 2, none⟩ = some (.int .i64 v1) := (by first | exact hk _ _ d2 | exact hk _ _ (alloc_keep _ d2)); have d3 : w2.cell? ⟨w.heap.size, 3, none⟩ = some (.int .i64 v2) := (by first | exact hk _ _ d3 | exact hk _ _ (alloc_keep _ d3)); have d4 : w2.cell? ⟨w.heap.size + 1, 0, none⟩ = some (.int .i64 b1) := (by first | exact hk _ _ d4 | exact hk _ _ (alloc_keep _ d4)); have d5 : w2.cell? ⟨w.heap.size + 1, 1, none⟩ = some (.int .i64 b2) := (by first | exact hk _ _ d5 | exact hk _ _ (alloc_keep _ d5)); have d6 : w2.cell? ⟨w.heap.size + 1, 2, none⟩ = some (.int .i64 u1) := (by first | exact hk _ _ d6 | exact hk _ _ (alloc_keep _ d6)); have d7 : w2.cell? ⟨w.heap.size + 1, 3, none⟩ = some (.int .i64 u2) := (by first | exact hk _ _ d7 | exact hk _ _ (alloc_keep _ d7)); have la : w.heap.size + 1 < w2.heap.size := lt_of_cell d4; have l1 : ¬ w2.heap.size = w.heap.size := (by omega); have l2 : ¬ w.heap.size = w2.heap.size := (by omega); have l3 : ¬ w2.heap.size = w.heap.size + 1 := (by omega); have l4 : ¬ w.heap.size + 1 = w2.heap.size := (by omega); have c0 : w2.cell? ⟨g, 0, none⟩ = some (.int .i64 d1') := (by first | exact hk _ _ c0 | exact hk _ _ (alloc_keep _ c0)); have c1 : w2.cell? ⟨g, 1, none⟩ = some (.int .i64 d2') := (by first | exact hk _ _ c1 | exact hk _ _ (alloc_keep _ c1)); have lg : g < w2.heap.size := lt_of_cell c0; have l5 : ¬ w2.heap.size = g := (by omega); have l6 : ¬ g = w2.heap.size := (by omega); (try (have y0 := nwc b x0 y0; have x1 := hk _ _ x1; have x0 := hk _ _ x0)); (try (have x0 := nw0 (n := w1.heap.size) hk rfl; have x1 := nw1 (n := w1.heap.size) hk rfl; have y0 := nwf (n := w1.heap.size) b rfl)); have B : Below w.heap.size w w2 := Below.next (by first | assumption | exact B.alloc (by omega) _ | go_grown) b))
      all_goals
        go_wp2_with fail
        go_meet
        refine ⟨_, rfl, ?_, ?_, ?_, ?_, ?_⟩
        · first | exact (set_two x0 x1).1 | (simp [go_sem])
        · first | exact (set_two x0 x1).2 | (simp [go_sem])
        iterate 2 (first | assumption | (simp [go_sem, alloc_keep, setCell_keep, *]))
        · first | exact below_set B (by omega) | exact B.alloc (by omega) _
    case rest =>
      obtain ⟨g', rfl, y0, y1, c0', c1', B'⟩ := hcut
      have BB := Lib.hid B'
      clear c0 c1 d0 d1 d2 d3 d4 d5 d6 d7 B HN HA B' lg la l1 l2 l3 l4 l5 l6
      by_cases hE0 : E = 0
      · have hr : R = 0 := by rw [hRI.out, if_pos hE0]
        subst hr
        have he := h0.out.2 hE0
        subst he
        clear h0 h1 h2 HN3 hE0 hRI
        go_wp2_with fail
        go_ret
        exact ⟨rfl, BB.out⟩
      · have he : ¬ e1' = 0 := fun h => hE0 (h0.out.1 h)
        have he2 : (e1' == 0) = false := by simpa using he
        by_cases hE1 : E = D
        · have hr : R = 1 := by rw [hRI.out, if_neg hE0, if_pos hE1]
          subst hr
          have hee := h1.out.2 hE1
          injection hee with hee1 hee2
          have hee2 : e2' = d2' := by simpa using hee2
          subst hee1 hee2
          clear h0 h1 h2 HN3 hE0 hE1 hRI
          go_wp2_with fail
          go_ret
          exact ⟨rfl, BB.out⟩
        · have hne : ¬ (e1' = d1' ∧ (e2' : Int) = (d2' : Int)) := fun h => hE1 (h1.out.1 (by rw [h.1, show e2' = d2' by omega]))
          by_cases hE2 : E = -D
          · have hr : R = -1 := by rw [hRI.out, if_neg hE0, if_neg hE1, if_pos hE2]
            subst hr
            obtain ⟨hs1, hs2⟩ := h2.out.2 hE2
            have hs2 := hs2.symm
            subst hs1 hs2
            have hd1 : ¬ -d1' = d1' := by omega
            clear h0 h1 h2 hE0 hE1 hE2 hRI hne
            all_goals
              go_upto_region 7 with fail
            all_goals
              go_cut [27] (fun v wx => ∃ wy, wy = wx ∧ v = .bool true ∧ Hid (Below w.heap.size w wy))
              case first =>
                go_region_held3 (fun w' => w'.cell? ⟨g', 0, none⟩ = some (.int .i64 (-d1')) ∧ w'.cell? ⟨g', 1, none⟩ = some (.int .i64 d2') ∧ w'.cell? ⟨g, 0, none⟩ = some (.int .i64 d1') ∧ w'.cell? ⟨g, 1, none⟩ = some (.int .i64 d2') ∧ Below w.heap.size w w')
                  (first | (refine ⟨?_, ?_, ?_, ?_, ?_⟩ <;> first | go_keep | exact BB.out.drew | exact Below.next (And.right (And.right (And.right (And.right (by assumption))))) (by assumption)))
                  (first | (go_at_call 57; refine (HN3.out _).mono ?_; rintro e w' ⟨rfl, b⟩; have hk := bkeep b))
                all_goals
                  go_wp2_with fail
                  go_meet
                  case rel => exact ⟨_, rfl, by first | rfl | (simp; done) | (simp; omega), Lib.hid (And.right (And.right (And.right (And.right (by assumption)))))⟩
              case rest =>
                obtain ⟨wy, rfl, rfl, hb⟩ := hcut
                go_wp2_with fail
                go_ret
                exact ⟨rfl, hb.out⟩
          · have hr : R = 2 := by rw [hRI.out, if_neg hE0, if_neg hE1, if_neg hE2]
            subst hr
            have hn2 : ¬ (e1' = -d1' ∧ (e2' : Int) = (d2' : Int)) := fun h => hE2 (h2.out.1 ⟨h.1, by omega⟩)
            by_cases hq : e1' = -d1'
            · have hn3 : ¬ (e2' : Int) = (d2' : Int) := fun h => hn2 ⟨hq, h⟩
              have hn4 : ((e2' : Int) == (d2' : Int)) = false := by simpa using hn3
              subst hq
              clear h0 h1 h2 hE0 hE1 hE2 hRI
              all_goals
                go_upto_region 7 with fail
              all_goals
                go_cut [27] (fun v wx => ∃ wy, wy = wx ∧ v = .bool false ∧ Hid (Below w.heap.size w wy))
                case first =>
                  go_region_held3 (fun w' => w'.cell? ⟨g', 0, none⟩ = some (.int .i64 (-d1')) ∧ w'.cell? ⟨g', 1, none⟩ = some (.int .i64 e2') ∧ w'.cell? ⟨g, 0, none⟩ = some (.int .i64 d1') ∧ w'.cell? ⟨g, 1, none⟩ = some (.int .i64 d2') ∧ Below w.heap.size w w')
                    (first | (refine ⟨?_, ?_, ?_, ?_, ?_⟩ <;> first | go_keep | exact BB.out.drew | exact Below.next (And.right (And.right (And.right (And.right (by assumption))))) (by assumption)))
                    (first | (go_at_call 57; refine (HN3.out _).mono ?_; rintro e w' ⟨rfl, b⟩; have hk := bkeep b))
                  all_goals
                    go_wp2_with fail
                    go_meet
                    case rel => exact ⟨_, rfl, by first | rfl | (simp; done) | (simp; omega), Lib.hid (And.right (And.right (And.right (And.right (by assumption)))))⟩
                case rest =>
                  obtain ⟨wy, rfl, rfl, hb⟩ := hcut
                  go_wp2_with fail
                  go_ret
                  exact ⟨rfl, hb.out⟩
            · have hq2 : (e1' == -d1') = false := by simpa using hq
              clear h0 h1 h2 hE0 hE1 hE2 hRI
              all_goals
                go_upto_region 7 with fail
              all_goals
                go_cut [27] (fun v wx => ∃ wy, wy = wx ∧ v = .bool false ∧ Hid (Below w.heap.size w wy))
                case first =>
                  go_region_held3 (fun w' => w'.cell? ⟨g', 0, none⟩ = some (.int .i64 e1') ∧ w'.cell? ⟨g', 1, none⟩ = some (.int .i64 e2') ∧ w'.cell? ⟨g, 0, none⟩ = some (.int .i64 d1') ∧ w'.cell? ⟨g, 1, none⟩ = some (.int .i64 d2') ∧ Below w.heap.size w w')
                    (first | (refine ⟨?_, ?_, ?_, ?_, ?_⟩ <;> first | go_keep | exact BB.out.drew | exact Below.next (And.right (And.right (And.right (And.right (by assumption))))) (by assumption)))
                    (first | (go_at_call 57; refine (HN3.out _).mono ?_; rintro e w' ⟨rfl, b⟩; have hk := bkeep b))
                  all_goals
                    go_wp2_with fail
                    go_meet
                    case rel => exact ⟨_, rfl, by first | rfl | (simp; done) | (simp; omega), Lib.hid (And.right (And.right (And.right (And.right (by assumption)))))⟩
                case rest =>
                  obtain ⟨wy, rfl, rfl, hb⟩ := hcut
                  go_wp2_with fail
                  go_ret
                  exact ⟨rfl, hb.out⟩
end Go.Proofs.Ytcogdogiceokdaa
