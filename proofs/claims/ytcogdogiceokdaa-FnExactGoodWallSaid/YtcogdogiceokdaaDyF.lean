/- Contracts: adding, the birthday. -/
import Derived.Test.YtcogdogiceokdaaDyE
import Derived.Deep.RegionWith
namespace Go.Proofs.Ytcogdogiceokdaa
open Go.RowKit

theorem lt_of_cell {w : World} {b o : Nat} {u : Value} (h : w.cell? ⟨b, o, none⟩ = some u) : b < w.heap.size := cell_lt h
def addV (t p u q : Int) : Int × Int × Bool := if gd t p && gd u q then lowV (sc 16 t p + sc 16 u q) 16 else (0, 0, false)

theorem res_dv {fn : Func} {p : Nat} (tmps : Array Value) (w : World) {b : Nat} {x y : Int} (h : fn.results = #[.cell p 56])
    (hp : tmps.getD p undef = .pointer (some ⟨b, 0, none⟩)) (hx : w.cell? ⟨b, 0, none⟩ = some (.int .i64 x)) (hy : w.cell? ⟨b, 1, none⟩ = some (.int .i64 y)) :
    (results fn tmps).run Try.prog w = .ok (dv x y) w := by
  simp only [Array.getD_eq_getD_getElem?] at hp
  simp only [results, h]
  simp [hp, go_sem, hx, hy]
theorem add24 {t p u q : Int} (hg : gd t p = true) (hg2 : gd u q = true) : red (sc 24 t p + sc 24 u q) 24 = red (sc 16 t p + sc 16 u q) 16 := by
  have h1 := gd_rng hg
  have h2 := gd_rng hg2
  rw [sc_up (n := 16) (m := 24) (by omega) (by omega), sc_up (n := 16) (m := 24) (t := u) (by omega) (by omega), ← Int.add_mul]
  exact red_pow _ 16 8
set_option maxHeartbeats 2000000 in
theorem s_l2Add (t p u q : Int) (w : World) (hg : gd t p = true) (hg2 : gd u q = true) :
    Calls Try.prog 56 #[dv t p, dv u q] w fun e w' => e = .returned (dv (red (sc 16 t p + sc 16 u q) 16).1 (red (sc 16 t p + sc 16 u q) 16).2) ∧ Below w.heap.size w w' := by
  rw [← add24 hg hg2]
  obtain ⟨h1, h2, h3, h4⟩ := gd_rng hg
  obtain ⟨k1, k2, k3, k4⟩ := gd_rng hg2
  have h1 : -1000001 ≤ t := by omega
  have h2 : t ≤ 1000001 := by omega
  have k1 : -1000001 ≤ u := by omega
  have k2 : u ≤ 1000001 := by omega
  have s1 := sc_bd (n := 24) (t := t) (p := p) (by omega) (by omega)
  have s2 := sc_bd (n := 24) (t := u) (p := q) (by omega) (by omega)
  simp at s1 s2
  obtain ⟨s1a, s1b⟩ := s1
  obtain ⟨s2a, s2b⟩ := s2
  have wr : IntKind.i64.wrap (sc 24 t p + sc 24 u q) = sc 24 t p + sc 24 u q := IntWalk.i64_in _ ⟨by omega, by omega⟩
  have wb1 : -4611686018427387904 ≤ IntKind.i64.wrap (sc 24 t p + sc 24 u q) := by rw [wr]; omega
  have wb2 : IntKind.i64.wrap (sc 24 t p + sc 24 u q) ≤ 4611686018427387904 := by rw [wr]; omega
  obtain ⟨m, Hm⟩ : ∃ m, Hid (red (IntKind.i64.wrap (sc 24 t p + sc 24 u q)) 24 = m) := ⟨_, Lib.hid rfl⟩
  have fin' : Hid (red (sc 24 t p + sc 24 u q) 24 = m) := Lib.hid (by rw [← Hm.out, wr])
  clear wr
  obtain ⟨x, y⟩ := m
  rw [fin'.out]
  go_enter Try.func56, Try.ntmps56
  go_wp2_with fail
  have n1 : ¬ (w.heap.size + 1 + 1 = w.heap.size) := by omega
  have n2 : ¬ (w.heap.size = w.heap.size + 1 + 1) := by omega
  have n3 : ¬ (w.heap.size + 2 = w.heap.size) := by omega
  have n4 : ¬ (w.heap.size = w.heap.size + 2) := by omega
  obtain ⟨w2, hw2⟩ : ∃ w2, w2 = ((w.alloc (.cells #[.int .i64 t, .int .i64 p] 56)).alloc (.cells #[.int .i64 u, .int .i64 q] 56)).alloc (.cells #[.int .i64 0, .int .i64 0] 56) := ⟨_, rfl⟩
  have d0 : w2.cell? ⟨w.heap.size, 0, none⟩ = some (.int .i64 t) := by rw [hw2]; simp [go_sem]
  have d1 : w2.cell? ⟨w.heap.size, 1, none⟩ = some (.int .i64 p) := by rw [hw2]; simp [go_sem]
  have d2 : w2.cell? ⟨w.heap.size + 1, 0, none⟩ = some (.int .i64 u) := by rw [hw2]; simp [go_sem]
  have d3 : w2.cell? ⟨w.heap.size + 1, 1, none⟩ = some (.int .i64 q) := by rw [hw2]; simp [go_sem]
  have d4 : w2.cell? ⟨w.heap.size + 2, 0, none⟩ = some (.int .i64 0) := by rw [hw2]; simp [go_sem]
  have d5 : w2.cell? ⟨w.heap.size + 2, 1, none⟩ = some (.int .i64 0) := by rw [hw2]; simp [go_sem]
  have f1 : ∀ o, w2.frozen? ⟨w.heap.size + 2, o, none⟩ = false := fun o => by rw [hw2]; simp [go_sem]
  have b2' : Below w.heap.size w w2 := by rw [hw2]; go_grown
  rw [← hw2]
  clear hw2
  go_region_held3 (fun w' => w'.cell? ⟨w.heap.size, 0, none⟩ = some (.int .i64 t) ∧ w'.cell? ⟨w.heap.size, 1, none⟩ = some (.int .i64 p) ∧ w'.cell? ⟨w.heap.size + 1, 0, none⟩ = some (.int .i64 u) ∧ w'.cell? ⟨w.heap.size + 1, 1, none⟩ = some (.int .i64 q))
    (go_keep)
    (first | (go_at_call 55; refine (s_l2Scaled _ _ _ (by assumption) (by assumption) (by assumption) (by assumption)).mono ?_; rintro e w' ⟨rfl, b⟩; have hk := bkeep b; have x0 := hk ⟨w.heap.size + 2, 0, none⟩ (.int .i64 0) (by simp [*]); have x1 := hk ⟨w.heap.size + 2, 1, none⟩ (.int .i64 0) (by simp [*]); have y0 : ∀ o, w'.frozen? ⟨w.heap.size + 2, o, none⟩ = false := fun o => ((bcell b).2 _ _ (lt_of_cell (o := 0) (u := .int .i64 0) (by simp [*]))).trans (by simp [*])) | (go_at_call 60; refine (s_l2Make _ 24 _ (by assumption) (by assumption) (by decide)).mono ?_; rintro e w' ⟨rfl, b⟩; have hk := bkeep b; have x0 := hk ⟨w.heap.size + 2, 0, none⟩ (.int .i64 0) (by simp [*]); have x1 := hk ⟨w.heap.size + 2, 1, none⟩ (.int .i64 0) (by simp [*]); have y0 : ∀ o, w'.frozen? ⟨w.heap.size + 2, o, none⟩ = false := fun o => ((bcell b).2 _ _ (lt_of_cell (o := 0) (u := .int .i64 0) (by simp [*]))).trans (by simp [*]); rw [Hm.out]))
  all_goals
    go_wp2_with fail
    refine bodyPost_ret (res_dv _ _ rfl rfl (two_set (b := w.heap.size + 2) x0 x1).1 (two_set (b := w.heap.size + 2) x0 x1).2) rfl ⟨rfl, ?_⟩
    refine ((?_ : Below w.heap.size w w').setCell (by simp; omega) _).setCell (by simp; omega) _
    refine Below.next ?_ (by assumption)
    refine Below.next ?_ (by assumption)
    refine Below.next ?_ (by assumption)
    exact b2'.drew
end Go.Proofs.Ytcogdogiceokdaa
