/- A number and a bool as results; cells that stay. -/
import Derived.Test.YtcogdogiceokdaaDyA
import Derived.Deep.RegionHeld3
namespace Go.Proofs.Ytcogdogiceokdaa
open Go.RowKit

/-- A number and a bool, as results. -/
abbrev rv (m : Int × Int × Bool) : Value := .tuple #[dv m.1 m.2.1, .bool m.2.2]
theorem two_set {w1 : World} {b : Nat} {u0 u1 x y : Value} (h0 : w1.cell? ⟨b, 0, none⟩ = some u0) (h1 : w1.cell? ⟨b, 1, none⟩ = some u1) :
    ((w1.setCell ⟨b, 0, none⟩ x).setCell ⟨b, 1, none⟩ y).cell? ⟨b, 0, none⟩ = some x ∧ ((w1.setCell ⟨b, 0, none⟩ x).setCell ⟨b, 1, none⟩ y).cell? ⟨b, 1, none⟩ = some y := by
  constructor
  · rw [World.cell?_setCell_other _ _ _ _ (by simp)]
    exact World.cell?_setCell_same _ _ _ h0
  · exact World.cell?_setCell_same (u := u1) _ _ _ (by rw [World.cell?_setCell_other _ _ _ _ (by simp)]; exact h1)
/-- The results: a number that lies in memory, and a slot. -/
theorem res_rv {fn : Func} {p u : Nat} (tmps : Array Value) (w : World) {b : Nat} {x y : Int} {r : Value} (h : fn.results = #[.cell p 56, .tmp u])
    (hp : tmps.getD p undef = .pointer (some ⟨b, 0, none⟩)) (hr : tmps.getD u undef = r) (hx : w.cell? ⟨b, 0, none⟩ = some (.int .i64 x)) (hy : w.cell? ⟨b, 1, none⟩ = some (.int .i64 y)) :
    (results fn tmps).run Try.prog w = .ok (.tuple #[dv x y, r]) w := by
  rw [results_cell_tmp h, hp, hr]
  simp [go_sem, hx, hy]
theorem ret_rv {a b : Int} {c : Bool} {m : Int × Int × Bool} (h : m = (a, b, c)) : Ending.returned (.tuple #[dv a b, .bool c]) = .returned (rv m) := by rw [h]
theorem alloc_keep {W : World} {a : Addr} {v : Value} (o : Obj) (h : W.cell? a = some v) : (W.alloc o).cell? a = some v := (World.cell?_alloc_some W a o (by rw [h]; rfl)).trans h
theorem setCell_keep {W : World} {a b : Addr} {v u : Value} (h : W.cell? a = some v) (hn : ¬ a = b) : (W.setCell b u).cell? a = some v := (World.cell?_setCell_other _ _ _ _ (by simpa using fun e => hn (Eq.symm e))).trans h
end Go.Proofs.Ytcogdogiceokdaa
