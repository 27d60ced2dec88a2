/- The walk of the exact law over AddDyadic. -/
import Derived.Test.YtbfabnpcahinfaaDyG
import Derived.Deep.DeepCutAuto
import Derived.Deep.RegionWith
namespace Go.Proofs.Ytbfabnpcahinfaa
open Go.RowKit

theorem alloc_keep {W : World} {a : Addr} {v : Value} (o : Obj) (h : W.cell? a = some v) : (W.alloc o).cell? a = some v := (World.cell?_alloc_some W a o (by rw [h]; rfl)).trans h
theorem setCell_keep {W : World} {a b : Addr} {v u : Value} (h : W.cell? a = some v) (hn : ¬ a = b) : (W.setCell b u).cell? a = some v := (World.cell?_setCell_other _ _ _ _ (by simpa using fun e => hn (Eq.symm e))).trans h
section
variable {W w' : World} {n : Nat} {T : TypeId}
theorem size2 (w : World) (o o' : Obj) : ((w.alloc o).alloc o').heap.size = w.heap.size + 1 + 1 := by simp
theorem nw0 (hk : ∀ a v, (W.alloc (.cells #[.int .i64 0, .int .i64 0] T)).cell? a = some v → w'.cell? a = some v) (hs : W.heap.size = n) : w'.cell? ⟨n, 0, none⟩ = some (.int .i64 0) := by
  subst hs; exact hk _ _ (by simp [go_sem])
theorem nw1 (hk : ∀ a v, (W.alloc (.cells #[.int .i64 0, .int .i64 0] T)).cell? a = some v → w'.cell? a = some v) (hs : W.heap.size = n) : w'.cell? ⟨n, 1, none⟩ = some (.int .i64 0) := by
  subst hs; exact hk _ _ (by simp [go_sem])
theorem nwf (b : Below (W.alloc (.cells #[.int .i64 0, .int .i64 0] T)).heap.size (W.alloc (.cells #[.int .i64 0, .int .i64 0] T)) w') (hs : W.heap.size = n) : ∀ o, w'.frozen? ⟨n, o, none⟩ = false := by
  subst hs; exact fun o => ((bcell b).2 _ _ (by simp)).trans (by simp [go_sem])
theorem nv0 (hk : ∀ a v, (W.alloc (.cells #[.int .i64 0, .int .i64 0] T)).drew.cell? a = some v → w'.cell? a = some v) (hs : W.heap.size = n) : w'.cell? ⟨n, 0, none⟩ = some (.int .i64 0) := by
  subst hs; exact hk _ _ (by simp [go_sem])
theorem nv1 (hk : ∀ a v, (W.alloc (.cells #[.int .i64 0, .int .i64 0] T)).drew.cell? a = some v → w'.cell? a = some v) (hs : W.heap.size = n) : w'.cell? ⟨n, 1, none⟩ = some (.int .i64 0) := by
  subst hs; exact hk _ _ (by simp [go_sem])
theorem nvf (b : Below (W.alloc (.cells #[.int .i64 0, .int .i64 0] T)).drew.heap.size (W.alloc (.cells #[.int .i64 0, .int .i64 0] T)).drew w') (hs : W.heap.size = n) : ∀ o, w'.frozen? ⟨n, o, none⟩ = false := by
  subst hs; exact fun o => ((bcell b).2 _ _ (by simp)).trans (by simp [go_sem])
theorem below_set {k : Nat} {x y : Value} (B : Below k W w') (h : k ≤ n) : Below k W ((w'.setCell ⟨n, 0, none⟩ x).setCell ⟨n, 1, none⟩ y) := (B.setCell h _).setCell h _
theorem nwc {v : Value} (b : Below W.heap.size W w') (x : W.cell? ⟨n, 0, none⟩ = some v) (y : ∀ o, W.frozen? ⟨n, o, none⟩ = false) : ∀ o, w'.frozen? ⟨n, o, none⟩ = false :=
  fun o => ((bcell b).2 _ _ (lt_of_cell x)).trans (y o)
end
set_option maxHeartbeats 8000000 in
theorem w_FnExactAddDyadic (t p u q : Int) (w : World) (_wt : (Lit.int .i64 t).wf = true) (_wp : (Lit.int .i64 p).wf = true) (_wu : (Lit.int .i64 u).wf = true) (_wq : (Lit.int .i64 q).wf = true) :
    Calls Try.prog 10 #[dv t p, dv u q] w fun e w' => e = .returned (.bool true) ∧ Below w.heap.size w w' := by
  clear _wt _wp _wu _wq
  obtain ⟨m, Hm⟩ : ∃ m, Hid (addV t p u q = m) := ⟨_, Lib.hid rfl⟩
  obtain ⟨x, y, ok⟩ := m
  go_enter Try.func10, Try.ntmps10
  go_upto_region 1 with fail
  go_cut [5, 6] (fun v5 v6 wx => ∃ g : Nat, v5 = .pointer (some ⟨g, 0, none⟩) ∧ v6 = .bool ok ∧ wx.cell? ⟨g, 0, none⟩ = some (.int .i64 x) ∧ wx.cell? ⟨g, 1, none⟩ = some (.int .i64 y) ∧
    wx.cell? ⟨w.heap.size, 0, none⟩ = some (.int .i64 t) ∧ wx.cell? ⟨w.heap.size, 1, none⟩ = some (.int .i64 p) ∧ wx.cell? ⟨w.heap.size + 1, 0, none⟩ = some (.int .i64 u) ∧ wx.cell? ⟨w.heap.size + 1, 1, none⟩ = some (.int .i64 q) ∧ Below w.heap.size w wx)
  case first =>
    go_region_held3 (fun w' => w'.cell? ⟨w.heap.size, 0, none⟩ = some (.int .i64 t) ∧ w'.cell? ⟨w.heap.size, 1, none⟩ = some (.int .i64 p) ∧ w'.cell? ⟨w.heap.size + 1, 0, none⟩ = some (.int .i64 u) ∧ w'.cell? ⟨w.heap.size + 1, 1, none⟩ = some (.int .i64 q)) (simp [go_sem, alloc_keep, setCell_keep, *])
      (first | (go_at_call_of 16 t; refine (c_toDyadic _ _ _).mono ?_; rintro e w1 ⟨rfl, b⟩; have hk := bkeep b; have d0 : w1.cell? ⟨w.heap.size, 0, none⟩ = some (.int .i64 t) := hk _ _ (by first | assumption | (simp [go_sem])); have d1 : w1.cell? ⟨w.heap.size, 1, none⟩ = some (.int .i64 p) := hk _ _ (by first | assumption | (simp [go_sem])); have d2 : w1.cell? ⟨w.heap.size + 1, 0, none⟩ = some (.int .i64 u) := hk _ _ (by first | assumption | (simp [go_sem])); have d3 : w1.cell? ⟨w.heap.size + 1, 1, none⟩ = some (.int .i64 q) := hk _ _ (by first | assumption | (simp [go_sem])); have la : w.heap.size + 1 < w1.heap.size := lt_of_cell d2; have l1 : ¬ w1.heap.size = w.heap.size := (by omega); have l2 : ¬ w.heap.size = w1.heap.size := (by omega); have l3 : ¬ w1.heap.size = w.heap.size + 1 := (by omega); have l4 : ¬ w.heap.size + 1 = w1.heap.size := (by omega); (try (have y0 := nwc b x0 y0; have x1 := hk _ _ x1; have x0 := hk _ _ x0)); (try (have x0 := nv0 (n := w.heap.size + 1 + 1) hk (size2 w _ _); have x1 := nv1 (n := w.heap.size + 1 + 1) hk (size2 w _ _); have y0 := nvf (n := w.heap.size + 1 + 1) b (size2 w _ _))); have B : Below w.heap.size w w1 := Below.next (by first | assumption | go_grown) b) | (go_at_call_of 16 u; refine (c_toDyadic _ _ _).mono ?_; rintro e w2 ⟨rfl, b⟩; have hk := bkeep b; have d0 : w2.cell? ⟨w.heap.size, 0, none⟩ = some (.int .i64 t) := (by first | exact hk _ _ d0 | exact hk _ _ (alloc_keep _ d0)); have d1 : w2.cell? ⟨w.heap.size, 1, none⟩ = some (.int .i64 p) := (by first | exact hk _ _ d1 | exact hk _ _ (alloc_keep _ d1)); have d2 : w2.cell? ⟨w.heap.size + 1, 0, none⟩ = some (.int .i64 u) := (by first | exact hk _ _ d2 | exact hk _ _ (alloc_keep _ d2)); have d3 : w2.cell? ⟨w.heap.size + 1, 1, none⟩ = some (.int .i64 q) := (by first | exact hk _ _ d3 | exact hk _ _ (alloc_keep _ d3)); have la : w.heap.size + 1 < w2.heap.size := lt_of_cell d2; have l1 : ¬ w2.heap.size = w.heap.size := (by omega); have l2 : ¬ w.heap.size = w2.heap.size := (by omega); have l3 : ¬ w2.heap.size = w.heap.size + 1 := (by omega); have l4 : ¬ w.heap.size + 1 = w2.heap.size := (by omega); (try (have y0 := nwc b x0 y0; have x1 := hk _ _ x1; have x0 := hk _ _ x0)); (try (have x0 := nw0 (n := w1.heap.size) hk rfl; have x1 := nw1 (n := w1.heap.size) hk rfl; have y0 := nwf (n := w1.heap.size) b rfl)); have B : Below w.heap.size w w2 := Below.next (by first | assumption | go_grown) b) | (go_at_call 29; refine (s_AddDyadic _ _ _ _ _).mono ?_; rintro e w3 ⟨rfl, b⟩; have hk := bkeep b; have d0 : w3.cell? ⟨w.heap.size, 0, none⟩ = some (.int .i64 t) := (by first | exact hk _ _ d0 | exact hk _ _ (alloc_keep _ d0)); have d1 : w3.cell? ⟨w.heap.size, 1, none⟩ = some (.int .i64 p) := (by first | exact hk _ _ d1 | exact hk _ _ (alloc_keep _ d1)); have d2 : w3.cell? ⟨w.heap.size + 1, 0, none⟩ = some (.int .i64 u) := (by first | exact hk _ _ d2 | exact hk _ _ (alloc_keep _ d2)); have d3 : w3.cell? ⟨w.heap.size + 1, 1, none⟩ = some (.int .i64 q) := (by first | exact hk _ _ d3 | exact hk _ _ (alloc_keep _ d3)); have la : w.heap.size + 1 < w3.heap.size := lt_of_cell d2; have l1 : ¬ w3.heap.size = w.heap.size := (by omega); have l2 : ¬ w.heap.size = w3.heap.size := (by omega); have l3 : ¬ w3.heap.size = w.heap.size + 1 := (by omega); have l4 : ¬ w.heap.size + 1 = w3.heap.size := (by omega); (try (have y0 := nwc b x0 y0; have x1 := hk _ _ x1; have x0 := hk _ _ x0)); (try (have x0 := nw0 (n := w2.heap.size) hk rfl; have x1 := nw1 (n := w2.heap.size) hk rfl; have y0 := nwf (n := w2.heap.size) b rfl)); have B : Below w.heap.size w w3 := Below.next (by first | assumption | go_grown) b; rw [Hm.out]))
    all_goals
      go_wp2_with fail
      go_meet
      refine ⟨_, rfl, rfl, ?_, ?_, ?_, ?_, ?_, ?_, ?_⟩
      · first | exact (two_set x0 x1).1 | (simp [go_sem])
      · first | exact (two_set x0 x1).2 | (simp [go_sem])
      iterate 4 (first | assumption | (simp [go_sem, alloc_keep, setCell_keep, *]))
      · first | exact below_set B (by omega) | exact B.alloc (by omega) _
  case rest =>
    obtain ⟨g, rfl, rfl, d4, d5, d0, d1, d2, d3, B⟩ := hcut
    have lg : g < wc.heap.size := lt_of_cell d4
    have la : w.heap.size + 1 < wc.heap.size := lt_of_cell d2
    go_upto_region 2 with fail
    go_cut [7, 8] (fun v7 v8 wx => ∃ g' : Nat, v7 = .pointer (some ⟨g', 0, none⟩) ∧ v8 = .bool ok ∧ wx.cell? ⟨g', 0, none⟩ = some (.int .i64 x) ∧ wx.cell? ⟨g', 1, none⟩ = some (.int .i64 y) ∧
      wx.cell? ⟨g, 0, none⟩ = some (.int .i64 x) ∧ wx.cell? ⟨g, 1, none⟩ = some (.int .i64 y) ∧ Below w.heap.size w wx)
    case first =>
      go_region_held3 (fun w' => w'.cell? ⟨w.heap.size, 0, none⟩ = some (.int .i64 t) ∧ w'.cell? ⟨w.heap.size, 1, none⟩ = some (.int .i64 p) ∧ w'.cell? ⟨w.heap.size + 1, 0, none⟩ = some (.int .i64 u) ∧ w'.cell? ⟨w.heap.size + 1, 1, none⟩ = some (.int .i64 q) ∧ w'.cell? ⟨g, 0, none⟩ = some (.int .i64 x) ∧ w'.cell? ⟨g, 1, none⟩ = some (.int .i64 y)) (simp [go_sem, alloc_keep, setCell_keep, *])
        (first | (go_at_call_of 16 t; refine (c_toDyadic _ _ _).mono ?_; rintro e w1 ⟨rfl, b⟩; have hk := bkeep b; have d0 : w1.cell? ⟨w.heap.size, 0, none⟩ = some (.int .i64 t) := (by first | exact hk _ _ d0 | exact hk _ _ (alloc_keep _ d0)); have d1 : w1.cell? ⟨w.heap.size, 1, none⟩ = some (.int .i64 p) := (by first | exact hk _ _ d1 | exact hk _ _ (alloc_keep _ d1)); have d2 : w1.cell? ⟨w.heap.size + 1, 0, none⟩ = some (.int .i64 u) := (by first | exact hk _ _ d2 | exact hk _ _ (alloc_keep _ d2)); have d3 : w1.cell? ⟨w.heap.size + 1, 1, none⟩ = some (.int .i64 q) := (by first | exact hk _ _ d3 | exact hk _ _ (alloc_keep _ d3)); have d4 : w1.cell? ⟨g, 0, none⟩ = some (.int .i64 x) := (by first | exact hk _ _ d4 | exact hk _ _ (alloc_keep _ d4)); have d5 : w1.cell? ⟨g, 1, none⟩ = some (.int .i64 y) := (by first | exact hk _ _ d5 | exact hk _ _ (alloc_keep _ d5)); have la : w.heap.size + 1 < w1.heap.size := lt_of_cell d2; have l1 : ¬ w1.heap.size = w.heap.size := (by omega); have l2 : ¬ w.heap.size = w1.heap.size := (by omega); have l3 : ¬ w1.heap.size = w.heap.size + 1 := (by omega); have l4 : ¬ w.heap.size + 1 = w1.heap.size := (by omega); have lg : g < w1.heap.size := lt_of_cell d4; have l5 : ¬ w1.heap.size = g := (by omega); have l6 : ¬ g = w1.heap.size := (by omega); (try (have y0 := nwc b x0 y0; have x1 := hk _ _ x1; have x0 := hk _ _ x0)); (try (have x0 := nv0 (n := wc.heap.size) hk rfl; have x1 := nv1 (n := wc.heap.size) hk rfl; have y0 := nvf (n := wc.heap.size) b rfl)); have B : Below w.heap.size w w1 := Below.next (by first | assumption | go_grown) b) | (go_at_call_of 16 u; refine (c_toDyadic _ _ _).mono ?_; rintro e w2 ⟨rfl, b⟩; have hk := bkeep b; have d0 : w2.cell? ⟨w.heap.size, 0, none⟩ = some (.int .i64 t) := (by first | exact hk _ _ d0 | exact hk _ _ (alloc_keep _ d0)); have d1 : w2.cell? ⟨w.heap.size, 1, none⟩ = some (.int .i64 p) := (by first | exact hk _ _ d1 | exact hk _ _ (alloc_keep _ d1)); have d2 : w2.cell? ⟨w.heap.size + 1, 0, none⟩ = some (.int .i64 u) := (by first | exact hk _ _ d2 | exact hk _ _ (alloc_keep _ d2)); have d3 : w2.cell? ⟨w.heap.size + 1, 1, none⟩ = some (.int .i64 q) := (by first | exact hk _ _ d3 | exact hk _ _ (alloc_keep _ d3)); have d4 : w2.cell? ⟨g, 0, none⟩ = some (.int .i64 x) := (by first | exact hk _ _ d4 | exact hk _ _ (alloc_keep _ d4)); have d5 : w2.cell? ⟨g, 1, none⟩ = some (.int .i64 y) := (by first | exact hk _ _ d5 | exact hk _ _ (alloc_keep _ d5)); have la : w.heap.size + 1 < w2.heap.size := lt_of_cell d2; have l1 : ¬ w2.heap.size = w.heap.size := (by omega); have l2 : ¬ w.heap.size = w2.heap.size := (by omega); have l3 : ¬ w2.heap.size = w.heap.size + 1 := (by omega); have l4 : ¬ w.heap.size + 1 = w2.heap.size := (by omega); have lg : g < w2.heap.size := lt_of_cell d4; have l5 : ¬ w2.heap.size = g := (by omega); have l6 : ¬ g = w2.heap.size := (by omega); (try (have y0 := nwc b x0 y0; have x1 := hk _ _ x1; have x0 := hk _ _ x0)); (try (have x0 := nw0 (n := w1.heap.size) hk rfl; have x1 := nw1 (n := w1.heap.size) hk rfl; have y0 := nwf (n := w1.heap.size) b rfl)); have B : Below w.heap.size w w2 := Below.next (by first | assumption | go_grown) b) | (go_at_call 30; refine (c_AddDyadic _ _ _ _ _).mono ?_; rintro e w3 ⟨rfl, b⟩; have hk := bkeep b; have d0 : w3.cell? ⟨w.heap.size, 0, none⟩ = some (.int .i64 t) := (by first | exact hk _ _ d0 | exact hk _ _ (alloc_keep _ d0)); have d1 : w3.cell? ⟨w.heap.size, 1, none⟩ = some (.int .i64 p) := (by first | exact hk _ _ d1 | exact hk _ _ (alloc_keep _ d1)); have d2 : w3.cell? ⟨w.heap.size + 1, 0, none⟩ = some (.int .i64 u) := (by first | exact hk _ _ d2 | exact hk _ _ (alloc_keep _ d2)); have d3 : w3.cell? ⟨w.heap.size + 1, 1, none⟩ = some (.int .i64 q) := (by first | exact hk _ _ d3 | exact hk _ _ (alloc_keep _ d3)); have d4 : w3.cell? ⟨g, 0, none⟩ = some (.int .i64 x) := (by first | exact hk _ _ d4 | exact hk _ _ (alloc_keep _ d4)); have d5 : w3.cell? ⟨g, 1, none⟩ = some (.int .i64 y) := (by first | exact hk _ _ d5 | exact hk _ _ (alloc_keep _ d5)); have la : w.heap.size + 1 < w3.heap.size := lt_of_cell d2; have l1 : ¬ w3.heap.size = w.heap.size := (by omega); have l2 : ¬ w.heap.size = w3.heap.size := (by omega); have l3 : ¬ w3.heap.size = w.heap.size + 1 := (by omega); have l4 : ¬ w.heap.size + 1 = w3.heap.size := (by omega); have lg : g < w3.heap.size := lt_of_cell d4; have l5 : ¬ w3.heap.size = g := (by omega); have l6 : ¬ g = w3.heap.size := (by omega); (try (have y0 := nwc b x0 y0; have x1 := hk _ _ x1; have x0 := hk _ _ x0)); (try (have x0 := nw0 (n := w2.heap.size) hk rfl; have x1 := nw1 (n := w2.heap.size) hk rfl; have y0 := nwf (n := w2.heap.size) b rfl)); have B : Below w.heap.size w w3 := Below.next (by first | assumption | go_grown) b; rw [Hm.out]))
      all_goals
        go_wp2_with fail
        go_meet
        refine ⟨_, rfl, rfl, ?_, ?_, ?_, ?_, ?_⟩
        · first | exact (two_set x0 x1).1 | (simp [go_sem])
        · first | exact (two_set x0 x1).2 | (simp [go_sem])
        iterate 2 (first | assumption | (simp [go_sem, alloc_keep, setCell_keep, *]))
        · first | exact below_set B (by omega) | exact B.alloc (by omega) _
    case rest =>
      obtain ⟨g', rfl, rfl, c0, c1, d4, d5, B⟩ := hcut
      go_wp2_with fail
      refine (c_eqDyadic_same _ _ _).mono ?_
      rintro e w1 ⟨rfl, b⟩
      have B1 := Below.next B b
      go_wp2_with fail
      go_ret
      exact ⟨rfl, B1⟩
end Go.Proofs.Ytbfabnpcahinfaa
