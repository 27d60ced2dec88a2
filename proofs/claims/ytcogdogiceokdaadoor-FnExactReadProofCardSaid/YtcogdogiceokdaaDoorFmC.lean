/- Slices of structs of the call's own; forms are copied. -/
import Derived.Test.YtcogdogiceokdaaDoorFmB
import Derived.Handy
namespace Go.Proofs.YtcogdogiceokdaaDoor
open Go.RowKit

theorem own_low {w : World} {base base' : Nat} {E : TypeId} {v : Value} {n : Nat} {us : List Value} (h : w.ownsRow base E 1 v n us) (hb : base' ≤ base) : w.ownsRow base' E 1 v n us := by
  obtain ⟨h0, h1⟩ := h
  refine ⟨h0, ?_⟩
  rcases h1 with h1 | ⟨g, cap, cur, e, hg, r⟩
  · exact .inl h1
  · exact .inr ⟨g, cap, cur, e, Nat.le_trans hb hg, r⟩
theorem own_set {w : World} {base : Nat} {E : TypeId} {v : Value} {n : Nat} {us : List Value} (h : w.ownsRow base E 1 v n us) {a : Addr} (hb : a.block < base) (x : Value) : (w.setCell a x).ownsRow base E 1 v n us := by
  refine own_kept (row := some a.block) h ⟨rfl, rfl, rfl, by simp, fun i _ hne => Go.Deep.blk_setCell_other _ _ _ _ (fun e => hne (by rw [e]))⟩ ?_
  cases e : v.ownBlock with
  | none => exact .inl rfl
  | some k =>
    right
    intro e2
    have e2 := Option.some.inj e2
    have := (h.lt k e).1
    omega
theorem flat_len {m : Nat} : ∀ {es : List El}, (∀ e ∈ es, e.cells.length = m) → (es.flatMap El.cells).length = es.length * m
  | [], _ => by simp
  | a :: l, h => by
    rw [List.flatMap_cons, List.length_append, h a (by simp), flat_len (fun e he => h e (List.mem_cons_of_mem _ he)), List.length_cons, Nat.add_mul]; omega
theorem flat_at {m : Nat} : ∀ {es : List El}, (∀ e ∈ es, e.cells.length = m) → ∀ {k : Nat} {e : El}, es[k]? = some e → ∀ {j : Nat} {u : Value}, e.cells[j]? = some u → (es.flatMap El.cells)[k * m + j]? = some u
  | [], _, k, e, he, _, _, _ => by simp at he
  | a :: l, h, 0, e, he, j, u, hu => by
    have e1 : a = e := by simpa using he
    subst e1
    rw [List.flatMap_cons, Nat.zero_mul, Nat.zero_add, List.getElem?_append_left]
    · exact hu
    · obtain ⟨h1, _⟩ := List.getElem?_eq_some_iff.1 hu
      exact h1
  | a :: l, h, k + 1, e, he, j, u, hu => by
    have ih := flat_at (fun x hx => h x (List.mem_cons_of_mem _ hx)) (k := k) (e := e) (by simpa using he) hu
    have hl := h a (by simp)
    rw [List.flatMap_cons, List.getElem?_append_right (by rw [hl, Nat.add_mul]; omega), hl]
    rwa [show (k + 1) * m + j - m = k * m + j by rw [Nat.add_mul]; omega]
theorem El.cells_len {e : El} {p q : Nat} (h1 : e.is.length = p) (h2 : e.rs.length = q) : e.cells.length = p + q := by unfold El.cells; simp [h1, h2]
/-- A slice of structs of the call's own: block g, from base on; the rows lie behind it, each in its own block. -/
structure OwnE (p q : Nat) (t : TypeId) (w : World) (base g n : Nat) (es : List El) : Prop where
  low : base ≤ g
  row : w.rowIs g t (n * (p + q)) (fun j => (es.flatMap El.cells).getD j undef)
  len : es.length = n
  fit : ∀ e ∈ es, e.is.length = p ∧ e.rs.length = q
  rows : ∀ e ∈ es, ∀ r ∈ e.rs, r.own w (g + 1)
  apart : (es.flatMap El.rs).Pairwise fun r s => r.blk = none ∨ r.blk ≠ s.blk
section
variable {p u n g base : Nat} {t : TypeId} {w w' : World} {es : List El}
theorem OwnE.rd (h : OwnE p u t w base g n es) : RdE p u w (some ⟨g, 0, none⟩) n es := by
  refine ⟨h.len, h.fit, fun e he r hr => OwnI.rd (h.rows e he r hr), fun _ => ⟨g, 0, rfl, h.row.lt, fun k e he j v hv => ?_⟩⟩
  have hc : ∀ e ∈ es, e.cells.length = p + u := fun e he => El.cells_len (h.fit e he).1 (h.fit e he).2
  have hf := flat_at hc he hv
  obtain ⟨hi, hx⟩ := List.getElem?_eq_some_iff.1 hf
  have hlt : k * (p + u) + j < n * (p + u) := by rw [flat_len hc, h.len] at hi; exact hi
  have := h.row.cell hlt
  rw [Nat.zero_add]
  rw [this]
  simp [hf]
theorem OwnE.below (h : OwnE p u t w base g n es) (hb : Below w.heap.size w w') : OwnE p u t w' base g n es :=
  ⟨h.low, h.row.of_block (hb.block g h.row.lt), h.len, h.fit, fun e he r hr => own_below (h.rows e he r hr) hb, h.apart⟩
theorem OwnE.lower (h : OwnE p u t w base g n es) {base' : Nat} (hb : base' ≤ base) : OwnE p u t w base' g n es := ⟨Nat.le_trans hb h.low, h.row, h.len, h.fit, h.rows, h.apart⟩
end
/-- One struct more is written behind those that stand. -/
theorem getD_two {l : List Value} {m : Nat} (hl : l.length = m) (a b z : Value) (j : Nat) : (l ++ [a, b]).getD j z = if j = m + 1 then b else if j = m then a else l.getD j z := by
  subst hl
  rcases Nat.lt_trichotomy j l.length with h | h | h
  · have h1 : ¬ j = l.length + 1 := by omega
    have h2 : ¬ j = l.length := by omega
    simp only [List.getD, List.getElem?_append_left h, h1, h2, if_false]
  · subst h
    simp [List.getD]
  · have h2 : ¬ j = l.length := by omega
    by_cases h1 : j = l.length + 1
    · subst h1
      simp [List.getD, List.getElem?_append_right]
    · simp only [h1, h2, if_false]
      have h3 : l.length + 2 ≤ j := by omega
      rw [List.getD, List.getD, List.getElem?_eq_none (by simp; omega), List.getElem?_eq_none (by omega)]
theorem set_two {w1 : World} {b : Nat} {u0 u1 x y : Value} (h0 : w1.cell? ⟨b, 0, none⟩ = some u0) (h1 : w1.cell? ⟨b, 1, none⟩ = some u1) :
    ((w1.setCell ⟨b, 0, none⟩ x).setCell ⟨b, 1, none⟩ y).cell? ⟨b, 0, none⟩ = some x ∧ ((w1.setCell ⟨b, 0, none⟩ x).setCell ⟨b, 1, none⟩ y).cell? ⟨b, 1, none⟩ = some y := by
  constructor
  · rw [World.cell?_setCell_other _ _ _ _ (by simp)]
    exact World.cell?_setCell_same _ _ _ h0
  · exact World.cell?_setCell_same (u := u1) _ _ _ (by rw [World.cell?_setCell_other _ _ _ _ (by simp)]; exact h1)
end Go.Proofs.YtcogdogiceokdaaDoor
