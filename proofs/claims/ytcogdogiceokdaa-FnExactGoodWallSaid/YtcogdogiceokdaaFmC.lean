/- Slices of structs of the call's own; forms are copied. -/
import Derived.Test.YtcogdogiceokdaaFmB
import Derived.Handy
namespace Go.Proofs.Ytcogdogiceokdaa
open Go.RowKit

theorem own_low {w : World} {base base' : Nat} {E : TypeId} {v : Value} {n : Nat} {us : List Value} (h : w.ownsRow base E 1 v n us) (hb : base' ≤ base) : w.ownsRow base' E 1 v n us := by
  obtain ⟨h0, h1⟩ := h
  refine ⟨h0, ?_⟩
  rcases h1 with h1 | ⟨g, cap, cur, e, hg, r⟩
  · exact .inl h1
  · exact .inr ⟨g, cap, cur, e, Nat.le_trans hb hg, r⟩
theorem own_set {w : World} {base : Nat} {E : TypeId} {v : Value} {n : Nat} {us : List Value} (h : w.ownsRow base E 1 v n us) {a : Addr} (hb : a.block < base) (x : Value) : (w.setCell a x).ownsRow base E 1 v n us := by
  refine own_kept (row := some a.block) h ⟨rfl, rfl, rfl, by simp, fun i _ hne => Go.Deep.blk_setCell_other _ _ _ _ (fun e => hne (by rw [e]))⟩ ?_
  cases e : v.ownBlock with
  | none => exact .inl rfl
  | some k =>
    right
    intro e2
    have e2 := Option.some.inj e2
    have := (h.lt k e).1
    omega
theorem flat_len {m : Nat} : ∀ {es : List El}, (∀ e ∈ es, e.cells.length = m) → (es.flatMap El.cells).length = es.length * m
  | [], _ => by simp
  | a :: l, h => by
    rw [List.flatMap_cons, List.length_append, h a (by simp), flat_len (fun e he => h e (List.mem_cons_of_mem _ he)), List.length_cons, Nat.add_mul]; omega
theorem flat_at {m : Nat} : ∀ {es : List El}, (∀ e ∈ es, e.cells.length = m) → ∀ {k : Nat} {e : El}, es[k]? = some e → ∀ {j : Nat} {u : Value}, e.cells[j]? = some u → (es.flatMap El.cells)[k * m + j]? = some u
  | [], _, k, e, he, _, _, _ => by simp at he
  | a :: l, h, 0, e, he, j, u, hu => by
    have e1 : a = e := by simpa using he
    subst e1
    rw [List.flatMap_cons, Nat.zero_mul, Nat.zero_add, List.getElem?_append_left]
    · exact hu
    · obtain ⟨h1, _⟩ := List.getElem?_eq_some_iff.1 hu
      exact h1
  | a :: l, h, k + 1, e, he, j, u, hu => by
    have ih := flat_at (fun x hx => h x (List.mem_cons_of_mem _ hx)) (k := k) (e := e) (by simpa using he) hu
    have hl := h a (by simp)
    rw [List.flatMap_cons, List.getElem?_append_right (by rw [hl, Nat.add_mul]; omega), hl]
    rwa [show (k + 1) * m + j - m = k * m + j by rw [Nat.add_mul]; omega]
theorem El.cells_len {e : El} {p q : Nat} (h1 : e.is.length = p) (h2 : e.rs.length = q) : e.cells.length = p + q := by unfold El.cells; simp [h1, h2]
/-- A slice of structs of the call's own: block g, from base on; the rows lie behind it, each in its own block. -/
structure OwnE (p q : Nat) (t : TypeId) (w : World) (base g n : Nat) (es : List El) : Prop where
  low : base ≤ g
  row : w.rowIs g t (n * (p + q)) (fun j => (es.flatMap El.cells).getD j undef)
  len : es.length = n
  fit : ∀ e ∈ es, e.is.length = p ∧ e.rs.length = q
  rows : ∀ e ∈ es, ∀ r ∈ e.rs, r.own w (g + 1)
  apart : (es.flatMap El.rs).Pairwise fun r s => r.blk = none ∨ r.blk ≠ s.blk
section
variable {p u n g base : Nat} {t : TypeId} {w w' : World} {es : List El}
theorem OwnE.rd (h : OwnE p u t w base g n es) : RdE p u w (some ⟨g, 0, none⟩) n es := by
  refine ⟨h.len, h.fit, fun e he r hr => OwnI.rd (h.rows e he r hr), fun _ => ⟨g, 0, rfl, h.row.lt, fun k e he j v hv => ?_⟩⟩
  have hc : ∀ e ∈ es, e.cells.length = p + u := fun e he => El.cells_len (h.fit e he).1 (h.fit e he).2
  have hf := flat_at hc he hv
  obtain ⟨hi, hx⟩ := List.getElem?_eq_some_iff.1 hf
  have hlt : k * (p + u) + j < n * (p + u) := by rw [flat_len hc, h.len] at hi; exact hi
  have := h.row.cell hlt
  rw [Nat.zero_add]
  rw [this]
  simp [hf]
theorem OwnE.below (h : OwnE p u t w base g n es) (hb : Below w.heap.size w w') : OwnE p u t w' base g n es :=
  ⟨h.low, h.row.of_block (hb.block g h.row.lt), h.len, h.fit, fun e he r hr => own_below (h.rows e he r hr) hb, h.apart⟩
theorem OwnE.lower (h : OwnE p u t w base g n es) {base' : Nat} (hb : base' ≤ base) : OwnE p u t w base' g n es := ⟨Nat.le_trans hb h.low, h.row, h.len, h.fit, h.rows, h.apart⟩
end
/-- One struct more is written behind those that stand. -/
theorem getD_two {l : List Value} {m : Nat} (hl : l.length = m) (a b z : Value) (j : Nat) : (l ++ [a, b]).getD j z = if j = m + 1 then b else if j = m then a else l.getD j z := by
  subst hl
  rcases Nat.lt_trichotomy j l.length with h | h | h
  · have h1 : ¬ j = l.length + 1 := by omega
    have h2 : ¬ j = l.length := by omega
    simp only [List.getD, List.getElem?_append_left h, h1, h2, if_false]
  · subst h
    simp [List.getD]
  · have h2 : ¬ j = l.length := by omega
    by_cases h1 : j = l.length + 1
    · subst h1
      simp [List.getD, List.getElem?_append_right]
    · simp only [h1, h2, if_false]
      have h3 : l.length + 2 ≤ j := by omega
      rw [List.getD, List.getD, List.getElem?_eq_none (by simp; omega), List.getElem?_eq_none (by omega)]
theorem set_two {w1 : World} {b : Nat} {u0 u1 x y : Value} (h0 : w1.cell? ⟨b, 0, none⟩ = some u0) (h1 : w1.cell? ⟨b, 1, none⟩ = some u1) :
    ((w1.setCell ⟨b, 0, none⟩ x).setCell ⟨b, 1, none⟩ y).cell? ⟨b, 0, none⟩ = some x ∧ ((w1.setCell ⟨b, 0, none⟩ x).setCell ⟨b, 1, none⟩ y).cell? ⟨b, 1, none⟩ = some y := by
  constructor
  · rw [World.cell?_setCell_other _ _ _ _ (by simp)]
    exact World.cell?_setCell_same _ _ _ h0
  · exact World.cell?_setCell_same (u := u1) _ _ _ (by rw [World.cell?_setCell_other _ _ _ _ (by simp)]; exact h1)
/-- A copy of a node. -/
def NodeP (xs ys : List Int) (w : World) (e : Ending) (w' : World) : Prop :=
  ∃ g1 g2, e = .returned (.agg #[.slice (some ⟨g1, 0, none⟩) xs.length xs.length, .slice (some ⟨g2, 0, none⟩) ys.length ys.length]) ∧ g1 ≠ g2 ∧
    OwnI w' w.heap.size (some ⟨g1, 0, none⟩) xs.length xs ∧ OwnI w' w.heap.size (some ⟨g2, 0, none⟩) ys.length ys ∧ Below w.heap.size w w'
theorem res_node {fn : Func} {s : Nat} (tmps : Array Value) (w : World) {b : Nat} {A1 A2 : Option Addr} {n1 c1 n2 c2 : Nat} (h : fn.results = #[.cell s 70])
    (hp : tmps.getD s undef = .pointer (some ⟨b, 0, none⟩)) (hx : w.cell? ⟨b, 0, none⟩ = some (.slice A1 n1 c1)) (hy : w.cell? ⟨b, 1, none⟩ = some (.slice A2 n2 c2)) :
    (results fn tmps).run Try.prog w = .ok (.agg #[.slice A1 n1 c1, .slice A2 n2 c2]) w := by
  simp only [Array.getD_eq_getD_getElem?] at hp
  simp only [results, h]
  simp [hp, go_sem, hx, hy]
set_option maxHeartbeats 1600000 in
theorem c_toNode (A B : Option Addr) (c d : Nat) (xs ys : List Int) (w : World) (ra : RdI w A xs.length xs) (rb : RdI w B ys.length ys) (hn : xs.length ≤ 1048576) (hm : ys.length ≤ 1048576) :
    Calls Try.prog 50 #[.agg #[.slice A xs.length c, .slice B ys.length d]] w (NodeP xs ys w) := by
  have RA := Lib.hid ra
  have RB := Lib.hid rb
  clear ra rb
  go_enter Try.func50, Try.ntmps50
  go_wp2_with fail
  refine (c_toIntS_own A xs.length c xs _ (RA.out.below (by go_grown)) hn).mono ?_
  rintro e w1 ⟨g1, rfl, o1, b1⟩
  have O1 := Lib.hid o1
  have k0 : w1.cell? ⟨w.heap.size, 0, none⟩ = some (.slice A xs.length c) := bkeep b1 _ _ (by simp [go_sem])
  have k1 : w1.cell? ⟨w.heap.size, 1, none⟩ = some (.slice B ys.length d) := bkeep b1 _ _ (by simp [go_sem])
  have m0 : w1.cell? ⟨w.heap.size + 1, 0, none⟩ = some (.slice none 0 0) := bkeep b1 _ _ (by simp [go_sem])
  have m1 : w1.cell? ⟨w.heap.size + 1, 1, none⟩ = some (.slice none 0 0) := bkeep b1 _ _ (by simp [go_sem])
  have l0 : w1.cell? ⟨w.heap.size + 1 + 1, 0, none⟩ = some (.slice none 0 0) := bkeep b1 _ _ (by simp [go_sem])
  have l1 : w1.cell? ⟨w.heap.size + 1 + 1, 1, none⟩ = some (.slice none 0 0) := bkeep b1 _ _ (by simp [go_sem])
  have f0 : ∀ o, w1.frozen? ⟨w.heap.size + 1, o, none⟩ = false := fun o => ((bcell b1).2 _ _ (by simp [go_sem])).trans (by simp [go_sem])
  have f1 : ∀ o, w1.frozen? ⟨w.heap.size + 1 + 1, o, none⟩ = false := fun o => ((bcell b1).2 _ _ (by simp [go_sem])).trans (by simp [go_sem])
  have B1 : Hid (Below w.heap.size w w1) := Lib.hid (Below.next (by go_grown) b1)
  have G1 := Lib.hid (o1.lt g1 rfl)
  have s1 := b1.size
  simp at s1
  clear o1 b1
  go_wp2_with fail
  refine (c_toIntS_own B ys.length d ys _ (RB.out.below (B1.out.setCell (show w.heap.size ≤ w.heap.size + 1 + 1 by omega) _)) hm).mono ?_
  rintro e w2 ⟨g2, rfl, o2, b2⟩
  have O2 := Lib.hid o2
  have l0' : w2.cell? ⟨w.heap.size + 1 + 1, 0, none⟩ = some (.slice (some ⟨g1, 0, none⟩) xs.length xs.length) := bkeep b2 _ _ (World.cell?_setCell_same _ _ _ l0)
  have l1' : w2.cell? ⟨w.heap.size + 1 + 1, 1, none⟩ = some (.slice none 0 0) := bkeep b2 _ _ (by rw [World.cell?_setCell_other _ _ _ _ (by simp)]; exact l1)
  have m0' : w2.cell? ⟨w.heap.size + 1, 0, none⟩ = some (.slice none 0 0) := bkeep b2 _ _ (by rw [World.cell?_setCell_other _ _ _ _ (by simp)]; exact m0)
  have m1' : w2.cell? ⟨w.heap.size + 1, 1, none⟩ = some (.slice none 0 0) := bkeep b2 _ _ (by rw [World.cell?_setCell_other _ _ _ _ (by simp)]; exact m1)
  have f0' : ∀ o, w2.frozen? ⟨w.heap.size + 1, o, none⟩ = false := fun o => ((bcell b2).2 _ _ (by simpa using cell_lt m0)).trans (by rw [World.frozen?_setCell]; exact f0 o)
  have f1' : ∀ o, w2.frozen? ⟨w.heap.size + 1 + 1, o, none⟩ = false := fun o => ((bcell b2).2 _ _ (by simpa using cell_lt l0)).trans (by rw [World.frozen?_setCell]; exact f1 o)
  have B2 : Hid (Below w.heap.size w w2) := Lib.hid (Below.next (B1.out.setCell (show w.heap.size ≤ w.heap.size + 1 + 1 by omega) _) b2)
  have O1' : Hid (OwnI w2 (w.heap.size + 3) (some ⟨g1, 0, none⟩) xs.length xs) := Lib.hid (own_below (own_set (own_low O1.out (by simp)) (show w.heap.size + 1 + 1 < w.heap.size + 3 by omega) _) b2)
  have O2' : Hid (OwnI w2 (w.heap.size + 3) (some ⟨g2, 0, none⟩) ys.length ys) := Lib.hid (own_low O2.out (by simp; omega))
  have G2 : Hid (g1 ≠ g2) := Lib.hid (by
    have h1 := (o2.lt g2 rfl).1
    have h2 := G1.out.2
    simp at h1
    omega)
  have m0s : (w2.setCell ⟨w.heap.size + 1 + 1, 1, none⟩ (.slice (some ⟨g2, 0, none⟩) ys.length ys.length)).cell? ⟨w.heap.size + 1, 0, none⟩ = some (.slice none 0 0) := by rw [World.cell?_setCell_other _ _ _ _ (by simp)]; exact m0'
  have m1s : (w2.setCell ⟨w.heap.size + 1 + 1, 1, none⟩ (.slice (some ⟨g2, 0, none⟩) ys.length ys.length)).cell? ⟨w.heap.size + 1, 1, none⟩ = some (.slice none 0 0) := by rw [World.cell?_setCell_other _ _ _ _ (by simp)]; exact m1'
  clear k0 k1 l0 l1 m0 m1 f0 f1 o2 b2 O1 O2 B1 G1 s1
  go_wp2_with fail
  refine bodyPost_ret (res_node _ _ rfl rfl (set_two m0s m1s).1 (set_two m0s m1s).2) rfl ⟨g1, g2, rfl, G2.out, ?_, ?_, ?_⟩
  · exact own_low (own_set (own_set (own_set O1'.out (show w.heap.size + 1 + 1 < w.heap.size + 3 by omega) _) (show w.heap.size + 1 < w.heap.size + 3 by omega) _) (show w.heap.size + 1 < w.heap.size + 3 by omega) _) (by omega)
  · exact own_low (own_set (own_set (own_set O2'.out (show w.heap.size + 1 + 1 < w.heap.size + 3 by omega) _) (show w.heap.size + 1 < w.heap.size + 3 by omega) _) (show w.heap.size + 1 < w.heap.size + 3 by omega) _) (by omega)
  · exact ((B2.out.setCell (show w.heap.size ≤ w.heap.size + 1 + 1 by omega) _).setCell (show w.heap.size ≤ w.heap.size + 1 by omega) _).setCell (show w.heap.size ≤ w.heap.size + 1 by omega) _
end Go.Proofs.Ytcogdogiceokdaa
