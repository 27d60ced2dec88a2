/- Claims of the call's own: the slice and all its rows, each in its own block. -/
import Derived.Test.YtcogdogiceokdaaDoorFmI
import Derived.Laws.OwnMore
namespace Go.Proofs.YtcogdogiceokdaaDoor
open Go.RowKit

/-- What is owned: the type of its elements, how many cells each has, the value, the length, the cells. -/
structure Item where
  E : TypeId
  m : Nat
  v : Value
  n : Nat
  us : List Value
def Item.own (w : World) (base : Nat) (it : Item) : Prop := w.ownsRow base it.E it.m it.v it.n it.us
def Item.blk (it : Item) : Option Nat := it.v.ownBlock
def Apart (a b : Option Nat) : Prop := a = none ∨ a ≠ b
theorem Apart.symm {a b : Option Nat} (h : Apart a b) : Apart b a := by
  rcases h with h | h
  · cases e : b with
    | none => exact .inl rfl
    | some k => exact .inr (by rw [h]; simp)
  · exact .inr fun e => h e.symm
theorem Apart.lt {a b : Option Nat} {m : Nat} (h : ∀ k, a = some k → k < m) (h' : ∀ k, b = some k → m ≤ k) : Apart a b := by
  cases e : a with
  | none => exact .inl rfl
  | some k =>
    right
    intro e2
    have h1 := h k e
    have h2 := h' k e2.symm
    omega
/-- Things that are owned, each in its own block. -/
structure OwnA (w : World) (base : Nat) (L : List Item) : Prop where
  own : ∀ it ∈ L, it.own w base
  apart : L.Pairwise fun a b => Apart a.blk b.blk
section
variable {w w' : World} {base : Nat} {L : List Item}
theorem Item.own.lt {it : Item} (h : it.own w base) : ∀ k, it.blk = some k → base ≤ k ∧ k < w.heap.size := World.ownsRow.lt h
theorem OwnA.grown (h : OwnA w base L) {row : Option Nat} (hg : w.grownBy w' row) (hne : ∀ it ∈ L, Apart it.blk row) : OwnA w' base L :=
  ⟨fun it hi => World.ownsRow.kept (h.own it hi) hg (hne it hi), h.apart⟩
theorem below_grown {b : Nat} (hb : Below b w w') (h : w.heap.size ≤ b) : w.grownBy w' none := ⟨hb.os, hb.tape, hb.output, hb.size, fun k hk _ => hb.block k (by omega)⟩
theorem OwnA.below (h : OwnA w base L) (hb : Below w.heap.size w w') : OwnA w' base L :=
  h.grown (below_grown hb (Nat.le_refl _)) fun it _ => by
    cases e : it.blk with
    | none => exact .inl rfl
    | some k => exact .inr (by simp)
theorem OwnA.low (h : OwnA w base L) {base' : Nat} (hb : base' ≤ base) : OwnA w base' L := by
  refine ⟨fun it hi => ?_, h.apart⟩
  obtain ⟨h0, h1⟩ := h.own it hi
  refine ⟨h0, ?_⟩
  rcases h1 with h1 | ⟨g, cap, cur, e, hg, r⟩
  · exact .inl h1
  · exact .inr ⟨g, cap, cur, e, Nat.le_trans hb hg, r⟩
theorem OwnA.snoc (h : OwnA w base L) {it : Item} (ho : it.own w base) (hn : ∀ x ∈ L, Apart x.blk it.blk) : OwnA w base (L ++ [it]) := by
  refine ⟨fun x hx => ?_, ?_⟩
  · rcases List.mem_append.1 hx with hx | hx
    · exact h.own x hx
    · obtain rfl := List.mem_singleton.1 hx
      exact ho
  · rw [List.pairwise_append]
    exact ⟨h.apart, List.pairwise_singleton _ _, fun a ha b hb => by obtain rfl := List.mem_singleton.1 hb; exact hn a ha⟩
/-- One of them has turned. -/
theorem OwnA.turn {pre post : List Item} {it it' : Item} (h : OwnA w base (pre ++ it :: post)) (ho : it'.own w' base) (hg : w.grownBy w' it.blk) (hb : it'.blk = it.blk ∨ ∀ k, it'.blk = some k → w.heap.size ≤ k) : OwnA w' base (pre ++ it' :: post) := by
  have hp := h.apart
  rw [List.pairwise_append, List.pairwise_cons] at hp
  obtain ⟨p1, ⟨p2, p3⟩, p4⟩ := hp
  have hpre : ∀ x ∈ pre, Apart x.blk it.blk := fun x hx => p4 x hx it (List.mem_cons_self ..)
  have hpost : ∀ x ∈ post, Apart x.blk it.blk := fun x hx => (p2 x hx).symm
  have hold : ∀ x, x ∈ pre ∨ x ∈ post → x.own w base := fun x hx => h.own x (by
    rcases hx with hx | hx
    · exact List.mem_append.2 (.inl hx)
    · exact List.mem_append.2 (.inr (List.mem_cons_of_mem _ hx)))
  have hnew : ∀ x, x ∈ pre ∨ x ∈ post → Apart x.blk it'.blk := fun x hx => by
    rcases hb with hb | hb
    · rw [hb]
      rcases hx with hx | hx
      · exact hpre x hx
      · exact hpost x hx
    · exact Apart.lt (fun k hk => ((hold x hx).lt k hk).2) hb
  refine ⟨fun x hx => ?_, ?_⟩
  · rcases List.mem_append.1 hx with hx | hx
    · exact World.ownsRow.kept (hold x (.inl hx)) hg (hpre x hx)
    · rcases List.mem_cons.1 hx with rfl | hx
      · exact ho
      · exact World.ownsRow.kept (hold x (.inr hx)) hg (hpost x hx)
  · rw [List.pairwise_append, List.pairwise_cons]
    refine ⟨p1, ⟨fun x hx => (hnew x (.inr hx)).symm, p3⟩, fun a ha b hb => ?_⟩
    rcases List.mem_cons.1 hb with rfl | hb
    · exact hnew a (.inl ha)
    · exact p4 a ha b (List.mem_cons_of_mem _ hb)
end
def Row.item (r : Row) : Item := ⟨3, 1, r.val, r.xs.length, r.xs.map (Value.int .i64)⟩
def cItem (A : Option Addr) (c : Nat) (es : List El) : Item := ⟨47, 4, .slice A es.length c, es.length, es.flatMap El.cells⟩
def cItems (A : Option Addr) (c : Nat) (es : List El) : List Item := cItem A c es :: (es.flatMap El.rs).map Row.item
/-- Claims of the call's own. -/
structure OwnC (w : World) (base : Nat) (A : Option Addr) (c : Nat) (es : List El) : Prop where
  all : OwnA w base (cItems A c es)
  fit : ∀ e ∈ es, e.is.length = 2 ∧ e.rs.length = 2
section
variable {w w' : World} {base : Nat} {A : Option Addr} {c : Nat} {es : List El}
theorem OwnC.outer (h : OwnC w base A c es) : w.ownsRow base 47 4 (.slice A es.length c) es.length (es.flatMap El.cells) := h.all.own _ (List.mem_cons_self ..)
theorem OwnC.row (h : OwnC w base A c es) {e : El} (he : e ∈ es) {r : Row} (hr : r ∈ e.rs) : r.own w base :=
  h.all.own (Row.item r) (List.mem_cons_of_mem _ (List.mem_map.2 ⟨r, List.mem_flatMap.2 ⟨e, he, hr⟩, rfl⟩))
theorem OwnC.below (h : OwnC w base A c es) (hb : Below w.heap.size w w') : OwnC w' base A c es := ⟨h.all.below hb, h.fit⟩
theorem OwnC.low (h : OwnC w base A c es) {base' : Nat} (hb : base' ≤ base) : OwnC w base' A c es := ⟨h.all.low hb, h.fit⟩
theorem OwnC.nil (w : World) (base : Nat) : OwnC w base none 0 [] :=
  ⟨⟨fun it hi => by obtain rfl := List.mem_singleton.1 hi; exact ⟨rfl, .inl ⟨rfl, rfl⟩⟩, List.pairwise_singleton _ _⟩, fun e he => by cases he⟩
theorem OwnC.lit0 (w : World) (base : Nat) (hb : base ≤ w.heap.size) : OwnC (w.alloc (.cells #[] 47)) base (some ⟨w.heap.size, 0, none⟩) 0 [] :=
  ⟨⟨fun it hi => by obtain rfl := List.mem_singleton.1 hi; exact World.ownsRow_lit w #[] 0 hb (Nat.zero_le _) rfl, List.pairwise_singleton _ _⟩, fun e he => by cases he⟩
theorem OwnC.at_ (h : OwnC w base A c es) (hn : 0 < es.length) : ∃ g, A = some ⟨g, 0, none⟩ ∧ base ≤ g ∧ g < w.heap.size := by
  rcases h.outer.2 with ⟨_, h0⟩ | ⟨g, cap, cur, e, hg, hb, _⟩
  · omega
  · injection e with e1
    exact ⟨g, e1, hg, (Array.getElem?_eq_some_iff.1 hb).1⟩
theorem OwnC.rd (h : OwnC w base A c es) : RdE 2 2 w A es.length es := by
  refine ⟨rfl, h.fit, fun e he r hr => OwnI.rd (h.row he hr), fun hn => ?_⟩
  obtain ⟨g, rfl, _, hl⟩ := h.at_ hn
  refine ⟨g, 0, rfl, hl, fun k e he j v hv => ?_⟩
  have hc : ∀ e ∈ es, e.cells.length = 4 := fun e he => El.cells_len (h.fit e he).1 (h.fit e he).2
  have hf := flat_at hc he hv
  obtain ⟨hi, _⟩ := List.getElem?_eq_some_iff.1 hf
  rw [flat_len hc] at hi
  rw [Nat.zero_add]
  exact (h.outer.cellAt (k * 4 + j) hi).trans hf
theorem OwnC.rdn (h : OwnC w base A c es) {n : Nat} (hn : es.length = n) : RdE 2 2 w A n es := by rw [← hn]; exact h.rd
/-- One claim more. -/
theorem OwnC.add {w1 w2 : World} (h : OwnC w base A c es) (hbase : base ≤ w.heap.size) (hb : Below w.heap.size w w1) {i1 i2 : Int} {r1 r2 : Row} (o1 : r1.own w1 w.heap.size) (o2 : r2.own w1 w.heap.size) (ne : Apart r1.blk r2.blk) {g cap : Nat}
    (h1 : w2.ownsRow base 47 4 (.slice (some ⟨g, 0, none⟩) (es.length + 1) cap) (es.length + 1) (es.flatMap El.cells ++ [.int .i64 i1, .int .i64 i2, r1.val, r2.val])) (h2 : w1.grownBy w2 (Value.slice A es.length c).ownBlock)
    (h3 : (Value.slice A es.length c).ownBlock = some g ∨ w1.heap.size ≤ g) : OwnC w2 base (some ⟨g, 0, none⟩) cap (es ++ [⟨[i1, i2], [r1, r2]⟩]) := by
  have hlow : ∀ x ∈ cItems A c es, ∀ k, x.blk = some k → k < w.heap.size := fun x hx k hk => ((h.all.own x hx).lt k hk).2
  have k1 : ∀ k, (Row.item r1).blk = some k → w.heap.size ≤ k := fun k hk => (World.ownsRow.lt o1 k hk).1
  have k2 : ∀ k, (Row.item r2).blk = some k → w.heap.size ≤ k := fun k hk => (World.ownsRow.lt o2 k hk).1
  have H1 : OwnA w1 base (cItems A c es ++ [Row.item r1] ++ [Row.item r2]) := by
    refine OwnA.snoc (OwnA.snoc (h.all.below hb) ?_ fun x hx => Apart.lt (hlow x hx) k1) ?_ fun x hx => ?_
    · exact own_low o1 hbase
    · exact own_low o2 hbase
    · rcases List.mem_append.1 hx with hx | hx
      · exact Apart.lt (hlow x hx) k2
      · obtain rfl := List.mem_singleton.1 hx
        exact ne
  have H2 : OwnA w1 base ([] ++ cItem A c es :: ((es.flatMap El.rs).map Row.item ++ [Row.item r1] ++ [Row.item r2])) := H1
  have H3 := H2.turn (w' := w2) (it' := ⟨47, 4, .slice (some ⟨g, 0, none⟩) (es.length + 1) cap, es.length + 1, es.flatMap El.cells ++ [.int .i64 i1, .int .i64 i2, r1.val, r2.val]⟩) h1 h2 (by
    rcases h3 with h3 | h3
    · exact .inl h3.symm
    · exact .inr fun k hk => by have := Option.some.inj (show some g = some k from hk); omega)
  refine ⟨?_, fun e he => ?_⟩
  · unfold cItems cItem
    simp only [List.length_append, List.length_singleton, List.flatMap_append, List.flatMap_singleton, List.map_append]
    simp only [List.nil_append, List.append_assoc] at H3
    exact H3
  · rcases List.mem_append.1 he with he | he
    · exact h.fit e he
    · obtain rfl := List.mem_singleton.1 he
      exact ⟨rfl, rfl⟩
end
/-- A claim with rising numbers. -/
def mkE (x : Int) (e : El) : El :=
  ⟨[x, x + 1], match e.rs with
    | [r, s] => [⟨r.A, r.c, mks (x + 2) r.xs.length⟩, ⟨s.A, s.c, mks (x + 2 + (r.xs.length : Int)) s.xs.length⟩]
    | rs => rs⟩
def mkEs (x : Int) : List El → List El
  | [] => []
  | e :: l => mkE x e :: mkEs (x + 2 + (e.tot : Int)) l
theorem mkEs_len : ∀ (l : List El) (x : Int), (mkEs x l).length = l.length
  | [], _ => rfl
  | e :: l, x => by simp [mkEs, mkEs_len l]
theorem tots_app (a b : List El) : tots (a ++ b) = tots a + tots b := by simp [tots]
theorem tots_cons (e : El) (l : List El) : tots (e :: l) = e.tot + tots l := by simp [tots]
theorem mkEs_app : ∀ (a b : List El) (x : Int), mkEs x (a ++ b) = mkEs x a ++ mkEs (x + 2 * (a.length : Int) + (tots a : Int)) b
  | [], b, x => by simp [mkEs, tots]
  | e :: a, b, x => by
    have e1 : x + 2 + (e.tot : Int) + 2 * (a.length : Int) + (tots a : Int) = x + 2 * ((e :: a).length : Int) + (tots (e :: a) : Int) := by
      rw [tots_cons, List.length_cons]; push_cast; omega
    rw [List.cons_append, mkEs, mkEs_app a b, e1]
    rfl
theorem mkEs_snoc (a : List El) (e : El) (x : Int) : mkEs x (a ++ [e]) = mkEs x a ++ [mkE (x + 2 * (a.length : Int) + (tots a : Int)) e] := by
  rw [mkEs_app]
  rfl
theorem mkEs_at {es : List El} {j : Nat} {e : El} (h : es[j]? = some e) (x : Int) : (mkEs x es)[j]? = some (mkE (x + 2 * (j : Int) + (tots (es.take j) : Int)) e) := by
  obtain ⟨hj, he⟩ := List.getElem?_eq_some_iff.1 h
  have e1 : es = es.take j ++ (e :: es.drop (j + 1)) := by
    conv => lhs; rw [← List.take_append_drop j es]
    rw [List.drop_eq_getElem_cons hj, he]
  have hl : (es.take j).length = j := by rw [List.length_take]; omega
  conv => lhs; rw [e1]
  rw [mkEs_app, List.getElem?_append_right (by rw [mkEs_len, hl]; exact Nat.le_refl _), mkEs_len, hl, Nat.sub_self]
  rfl
end Go.Proofs.YtcogdogiceokdaaDoor
