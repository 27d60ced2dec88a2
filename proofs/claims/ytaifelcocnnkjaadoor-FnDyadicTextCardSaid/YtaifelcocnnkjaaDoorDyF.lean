/- Contracts: adding, the birthday. -/
import Derived.Test.YtaifelcocnnkjaaDoorDyE
import Derived.Deep.RegionWith
namespace Go.Proofs.YtaifelcocnnkjaaDoor
open Go.RowKit

theorem lt_of_cell {w : World} {b o : Nat} {u : Value} (h : w.cell? ⟨b, o, none⟩ = some u) : b < w.heap.size := cell_lt h
def addV (t p u q : Int) : Int × Int × Bool := if gd t p && gd u q then lowV (sc 16 t p + sc 16 u q) 16 else (0, 0, false)

theorem res_dv {fn : Func} {p : Nat} (tmps : Array Value) (w : World) {b : Nat} {x y : Int} (h : fn.results = #[.cell p 41])
    (hp : tmps.getD p undef = .pointer (some ⟨b, 0, none⟩)) (hx : w.cell? ⟨b, 0, none⟩ = some (.int .i64 x)) (hy : w.cell? ⟨b, 1, none⟩ = some (.int .i64 y)) :
    (results fn tmps).run Tryd.prog w = .ok (dv x y) w := by
  simp only [Array.getD_eq_getD_getElem?] at hp
  simp only [results, h]
  simp [hp, go_sem, hx, hy]
theorem add24 {t p u q : Int} (hg : gd t p = true) (hg2 : gd u q = true) : red (sc 24 t p + sc 24 u q) 24 = red (sc 16 t p + sc 16 u q) 16 := by
  have h1 := gd_rng hg
  have h2 := gd_rng hg2
  rw [sc_up (n := 16) (m := 24) (by omega) (by omega), sc_up (n := 16) (m := 24) (t := u) (by omega) (by omega), ← Int.add_mul]
  exact red_pow _ 16 8
end Go.Proofs.YtaifelcocnnkjaaDoor
