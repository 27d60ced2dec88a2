/- Slices of structs that hold ints and slices of ints: how they are read. -/
import Derived.Test.YtcogdogiceokdaaDoorMarks
import Derived.Test.YtcogdogiceokdaaDoorGen
import Derived.Deep.SlicePairs
namespace Go.Proofs.YtcogdogiceokdaaDoor
open Go.RowKit

/-- A row: where it lies, its capacity, its numbers. -/
structure Row where
  A : Option Addr
  c : Nat
  xs : List Int
def Row.val (r : Row) : Value := .slice r.A r.xs.length r.c
def Row.blk (r : Row) : Option Nat := r.val.ownBlock
abbrev Row.rd (w : World) (r : Row) : Prop := RdI w r.A r.xs.length r.xs
abbrev Row.own (w : World) (base : Nat) (r : Row) : Prop := OwnI w base r.A r.c r.xs
/-- A struct of ints and, behind them, slices of ints. -/
structure El where
  is : List Int
  rs : List Row
def El.cells (e : El) : List Value := e.is.map (Value.int .i64) ++ e.rs.map Row.val
/-- What it holds, told apart from where it lies. -/
def El.dat (e : El) : List Int × List (List Int) := (e.is, e.rs.map Row.xs)
abbrev dats (es : List El) : List (List Int × List (List Int)) := es.map El.dat
/-- The slice value '.slice A n _' reads as these elements, each of p ints and q slices. -/
structure RdE (p q : Nat) (w : World) (A : Option Addr) (n : Nat) (es : List El) : Prop where
  len : es.length = n
  fit : ∀ e ∈ es, e.is.length = p ∧ e.rs.length = q
  rows : ∀ e ∈ es, ∀ r ∈ e.rs, r.rd w
  cell : 0 < n → ∃ b off, A = some ⟨b, off, none⟩ ∧ b < w.heap.size ∧ ∀ k e, es[k]? = some e → ∀ j u, e.cells[j]? = some u → w.cell? ⟨b, off + (k * (p + q) + j), none⟩ = some u
section
variable {p u n : Nat} {w w' : World} {A : Option Addr} {es : List El}
theorem RdE.nil : RdE p u w A 0 [] := ⟨rfl, fun e he => by simp at he, fun e he => by simp at he, fun h => absurd h (by omega)⟩
theorem RdE.below (h : RdE p u w A n es) (hb : Below w.heap.size w w') : RdE p u w' A n es :=
  ⟨h.len, h.fit, fun e he r hr => (h.rows e he r hr).below hb, fun hn => by
    obtain ⟨b, off, e1, h1, h2⟩ := h.cell hn
    exact ⟨b, off, e1, Nat.lt_of_lt_of_le h1 hb.size, fun k e he j v hu => (hb.cell h1).trans (h2 k e he j v hu)⟩⟩
theorem RdE.q (h : RdE p u w A n es) (hq : Q w w') : RdE p u w' A n es := h.below hq.below
theorem RdE.at_ (h : RdE p u w A n es) {k : Nat} (hk : k < n) : ∃ b off, A = some ⟨b, off, none⟩ ∧ b < w.heap.size ∧ ∃ e, es[k]? = some e ∧ e ∈ es ∧ e.is.length = p ∧ e.rs.length = u ∧ (∀ r ∈ e.rs, r.rd w) ∧ (dats es)[k]? = some e.dat ∧
    ∀ j v, e.cells[j]? = some v → w.cell? ⟨b, off + (k * (p + u) + j), none⟩ = some v := by
  obtain ⟨b, off, e1, h1, h2⟩ := h.cell (by omega)
  have hl : k < es.length := by rw [h.len]; exact hk
  refine ⟨b, off, e1, h1, es[k], by simp [hl], List.getElem_mem hl, (h.fit _ (List.getElem_mem hl)).1, (h.fit _ (List.getElem_mem hl)).2, h.rows _ (List.getElem_mem hl), by simp [hl], h2 k _ (by simp [hl])⟩
end
end Go.Proofs.YtcogdogiceokdaaDoor
