/- Boxes, words and claims that are owned together; one claim is appended. -/
import Derived.Test.YtcogdogiceokdaaDoorRpD
import Derived.Test.YtcogdogiceokdaaDoorRpE
namespace Go.Proofs.YtcogdogiceokdaaDoor
open Go.RowKit

theorem app4 {P : Program} {ops : Array Oper} {rest : List Oper} {o : Oper} {a : Act} {Q : Exit → Act → World → Prop} (w : World) (N : Nat) (hN : N = w.heap.size) (T E : TypeId) (z : Value) (bytes : Nat)
    (hT : P.underlying T = some (.slice E)) (hI : (P.info? E).map (fun i => (i.zero, i.size, i.bytes)) = some (some z, 4, bytes)) (hz : z.cells.size = 4) (hgd : o.guard = none) (s x : Operand)
    (ho : o.op = .call { callee := .builtin .append, args := #[s, x], argTypes := #[T, T] })
    (base : Nat) (v : Value) (n : Nat) (xs : List Value) (hs : a.eval s = v) (hown : w.ownsRow base E 4 v n xs) (u0 u1 u2 u3 : Value) (hu : ∀ u ∈ [u0, u1, u2, u3], u.oneCell' = true)
    (hx : a.eval x = .slice (some ⟨N, 0, none⟩) 1 1) (hlen : n + 1 ≤ 100000000) (hby : bytes ≤ 1000) (hbase : base ≤ w.heap.size)
    (h : ∀ g cap w', w'.ownsRow base E 4 (.slice (some ⟨g, 0, none⟩) (n + 1) cap) (n + 1) (xs ++ [u0, u1, u2, u3]) → w.grownBy w' v.ownBlock → (v.ownBlock = some g ∨ w.heap.size ≤ g) →
      wpList P ops Q rest (a.put o.dst (.slice (some ⟨g, 0, none⟩) (n + 1) cap)) w') :
    wpList P ops Q (o :: rest) a (w.alloc (.cells #[u0, u1, u2, u3] E)) := by
  subst hN
  obtain ⟨i, hi, hz0, hz1, hz2⟩ := info_parts hI
  refine wpList_append_own_at (w.alloc (.cells #[u0, u1, u2, u3] E)) hgd s x T ho base E i z 4 bytes hT hi hz0 hz1 hz2 hz (by decide) v n xs hs (hown.alloc _) ⟨w.heap.size, 0, none⟩ 1 1 [u0, u1, u2, u3] hx rfl
    ?_ hu (by unfold maxLen; omega) ?_ (by simp; omega) ?_
  · intro j u hj
    match j, hj with
    | 0, hj => simp at hj; subst hj; simp [Addr.add]
    | 1, hj => simp at hj; subst hj; simp [Addr.add]
    | 2, hj => simp at hj; subst hj; simp [Addr.add]
    | 3, hj => simp at hj; subst hj; simp [Addr.add]
    | j + 4, hj => simp at hj
  · have : (n + 1) * bytes ≤ 100000000 * 1000 := Nat.mul_le_mul hlen hby
    omega
  · intro v' w' h1 h2 h3 h4
    rcases h1.2 with ⟨he, hn⟩ | ⟨g, cap, cur, he, r⟩
    · exact absurd hn (by omega)
    · subst he
      refine h g cap w' h1 ((World.grownBy_alloc w _ _).trans h2) ?_
      rcases h4 with h4 | h4
      · left; rw [← h4]; rfl
      · right
        simp [Value.ownBlock] at h4
        omega
def bItem (b : Nat) (v : Value) : Item := ⟨30, 1, .slice (some ⟨b, 0, none⟩) 1 1, 1, [v]⟩
def wItem (B : Option Addr) (d : Nat) (W : List ByteArray) : Item := ⟨9, 1, .slice B W.length d, W.length, W.map Value.string⟩
/-- The result's box, the box of what is read, the words, the claims. -/
structure St (w : World) (base b0 b1 : Nat) (B : Option Addr) (d : Nat) (W : List ByteArray) (v : Value) (A : Option Addr) (c : Nat) (es : List El) : Prop where
  all : OwnA w base (bItem b0 (.slice none 0 0) :: bItem b1 v :: wItem B d W :: cItems A c es)
  fit : ∀ e ∈ es, e.is.length = 2 ∧ e.rs.length = 2
theorem OwnA.tail {w : World} {base : Nat} {it : Item} {L : List Item} (h : OwnA w base (it :: L)) : OwnA w base L := ⟨fun x hx => h.own x (List.mem_cons_of_mem _ hx), (List.pairwise_cons.1 h.apart).2⟩
section
variable {w w' : World} {base b0 b1 d c : Nat} {B A : Option Addr} {W : List ByteArray} {v : Value} {es : List El}
theorem box_cell {w : World} {base b : Nat} {v : Value} (h : (bItem b v).own w base) : w.cell? ⟨b, 0, none⟩ = some v := World.ownsRow.cellAt h 0 (show 0 < 1 * 1 by decide)
theorem box_free {w : World} {base b : Nat} {v : Value} (h : (bItem b v).own w base) : ∀ o, w.frozen? ⟨b, o, none⟩ = false := fun o => World.ownsRow.frozenAt h o
theorem St.o0 (h : St w base b0 b1 B d W v A c es) : (bItem b0 (.slice none 0 0)).own w base := h.all.own _ (List.mem_cons_self ..)
theorem St.o1 (h : St w base b0 b1 B d W v A c es) : (bItem b1 v).own w base := h.all.own _ (List.mem_cons_of_mem _ (List.mem_cons_self ..))
theorem St.ow (h : St w base b0 b1 B d W v A c es) : (wItem B d W).own w base := h.all.own _ (List.mem_cons_of_mem _ (List.mem_cons_of_mem _ (List.mem_cons_self ..)))
theorem St.claims (h : St w base b0 b1 B d W v A c es) : OwnC w base A c es := ⟨h.all.tail.tail.tail, h.fit⟩
theorem St.words (h : St w base b0 b1 B d W v A c es) {k : Nat} {x : ByteArray} (hk : W[k]? = some x) : ∃ g, B = some ⟨g, 0, none⟩ ∧ g < w.heap.size ∧ w.cell? ⟨g, k, none⟩ = some (.string x) := by
  have hl := (List.getElem?_eq_some_iff.1 hk).1
  have ho := h.ow
  rcases ho.2 with ⟨_, h0⟩ | ⟨g, cap, cur, e, hg, hb, _⟩
  · have h0 : W.length = 0 := h0
    omega
  · injection e with e1 e2 e3
    subst e1
    refine ⟨g, rfl, (Array.getElem?_eq_some_iff.1 hb).1, ?_⟩
    have := World.ownsRow.cellAt ho k (show k < W.length * 1 by omega)
    rw [this]
    show (W.map Value.string)[k]? = _
    rw [List.getElem?_map, hk]
    rfl
theorem St.below (h : St w base b0 b1 B d W v A c es) (hb : Below w.heap.size w w') : St w' base b0 b1 B d W v A c es := ⟨h.all.below hb, h.fit⟩
theorem St.start (h0 : OwnA w base [bItem b0 (.slice none 0 0), bItem b1 v]) {w1 : World} (hb : Below w.heap.size w w1) (hbase : base ≤ w.heap.size) (ho : (wItem B d W).own w1 w.heap.size) : St w1 base b0 b1 B d W v none 0 [] := by
  refine ⟨?_, fun e he => by cases he⟩
  have H1 := OwnA.snoc (h0.below hb) (it := wItem B d W) (by
    obtain ⟨a0, a1⟩ := ho
    refine ⟨a0, ?_⟩
    rcases a1 with a1 | ⟨g, cap, cur, e, hg, r⟩
    · exact .inl a1
    · exact .inr ⟨g, cap, cur, e, Nat.le_trans hbase hg, r⟩) (fun x hx => Apart.lt (fun k hk => ((h0.own x hx).lt k hk).2) (fun k hk => (World.ownsRow.lt ho k hk).1))
  exact H1.snoc (it := cItem none 0 []) ⟨rfl, .inl ⟨rfl, rfl⟩⟩ (fun x _ => Apart.symm (.inl rfl))
theorem St.startL (h0 : OwnA w base [bItem b0 (.slice none 0 0), cItem A 0 [], bItem b1 v]) {w1 : World} (hb : Below w.heap.size w w1) (hbase : base ≤ w.heap.size) (ho : (wItem B d W).own w1 w.heap.size) : St w1 base b0 b1 B d W v A 0 [] := by
  refine ⟨?_, fun e he => by cases he⟩
  have H1 := OwnA.snoc (h0.below hb) (it := wItem B d W) (by
    obtain ⟨a0, a1⟩ := ho
    refine ⟨a0, ?_⟩
    rcases a1 with a1 | ⟨g, cap, cur, e, hg, r⟩
    · exact .inl a1
    · exact .inr ⟨g, cap, cur, e, Nat.le_trans hbase hg, r⟩) (fun x hx => Apart.lt (fun k hk => ((h0.own x hx).lt k hk).2) (fun k hk => (World.ownsRow.lt ho k hk).1))
  refine ⟨fun it hi => H1.own it ?_, ?_⟩
  · simp only [cItems, List.flatMap_nil, List.map_nil, List.mem_cons, List.not_mem_nil, or_false, List.mem_append] at hi ⊢
    rcases hi with hi | hi | hi | hi
    · exact .inl (.inl hi)
    · exact .inl (.inr (.inr hi))
    · exact .inr hi
    · exact .inl (.inr (.inl hi))
  · have hp := H1.apart
    simp only [cItems, List.flatMap_nil, List.map_nil, List.cons_append, List.nil_append, List.pairwise_cons, List.mem_cons, List.not_mem_nil, or_false, forall_eq_or_imp, forall_eq, List.Pairwise.nil, and_true, false_implies, implies_true] at hp ⊢
    obtain ⟨⟨p1, p2, p3⟩, ⟨p4, p5⟩, p6⟩ := hp
    exact ⟨⟨p2, p3, p1⟩, ⟨p6, p4.symm⟩, p5.symm⟩
/-- What is read is put into its box. -/
theorem St.put1 (h : St w base b0 b1 B d W v A c es) (u : Value) : St (w.setCell ⟨b1, 0, none⟩ u) base b0 b1 B d W u A c es := by
  have s := World.ownsRow.stored h.o1 0 u
  exact ⟨OwnA.turn (pre := [bItem b0 (.slice none 0 0)]) (it' := bItem b1 u) h.all s.1 s.2 (.inl rfl), h.fit⟩
/-- .. and handed back. -/
theorem St.put0 (h : St w base b0 b1 B d W v A c es) (u : Value) : OwnC (w.setCell ⟨b0, 0, none⟩ u) base A c es := by
  have s := World.ownsRow.stored h.o0 0 u
  have := OwnA.turn (pre := []) (it' := bItem b0 u) h.all s.1 s.2 (.inl rfl)
  exact ⟨this.tail.tail.tail, h.fit⟩
/-- One claim more. -/
theorem St.add {w1 w2 : World} (h : St w base b0 b1 B d W v A c es) (hbase : base ≤ w.heap.size) (hb : Below w.heap.size w w1) {i1 i2 : Int} {r1 r2 : Row} (o1 : r1.own w1 w.heap.size) (o2 : r2.own w1 w.heap.size) (ne : Apart r1.blk r2.blk) {g cap : Nat}
    (h1 : w2.ownsRow base 47 4 (.slice (some ⟨g, 0, none⟩) (es.length + 1) cap) (es.length + 1) (es.flatMap El.cells ++ [.int .i64 i1, .int .i64 i2, r1.val, r2.val])) (h2 : w1.grownBy w2 (Value.slice A es.length c).ownBlock)
    (h3 : (Value.slice A es.length c).ownBlock = some g ∨ w1.heap.size ≤ g) : St w2 base b0 b1 B d W v (some ⟨g, 0, none⟩) cap (es ++ [⟨[i1, i2], [r1, r2]⟩]) := by
  have hlow : ∀ x ∈ bItem b0 (.slice none 0 0) :: bItem b1 v :: wItem B d W :: cItems A c es, ∀ k, x.blk = some k → k < w.heap.size := fun x hx k hk => ((h.all.own x hx).lt k hk).2
  have k1 : ∀ k, (Row.item r1).blk = some k → w.heap.size ≤ k := fun k hk => (World.ownsRow.lt o1 k hk).1
  have k2 : ∀ k, (Row.item r2).blk = some k → w.heap.size ≤ k := fun k hk => (World.ownsRow.lt o2 k hk).1
  have H1 : OwnA w1 base ((bItem b0 (.slice none 0 0) :: bItem b1 v :: wItem B d W :: cItems A c es) ++ [Row.item r1] ++ [Row.item r2]) := by
    refine OwnA.snoc (OwnA.snoc (h.all.below hb) ?_ fun x hx => Apart.lt (hlow x hx) k1) ?_ fun x hx => ?_
    · exact own_low o1 hbase
    · exact own_low o2 hbase
    · rcases List.mem_append.1 hx with hx | hx
      · exact Apart.lt (hlow x hx) k2
      · obtain rfl := List.mem_singleton.1 hx
        exact ne
  have H2 : OwnA w1 base ([bItem b0 (.slice none 0 0), bItem b1 v, wItem B d W] ++ cItem A c es :: ((es.flatMap El.rs).map Row.item ++ [Row.item r1] ++ [Row.item r2])) := H1
  have H3 := H2.turn (w' := w2) (it' := ⟨47, 4, .slice (some ⟨g, 0, none⟩) (es.length + 1) cap, es.length + 1, es.flatMap El.cells ++ [.int .i64 i1, .int .i64 i2, r1.val, r2.val]⟩) h1 h2 (by
    rcases h3 with h3 | h3
    · exact .inl h3.symm
    · exact .inr fun k hk => by have := Option.some.inj (show some g = some k from hk); omega)
  refine ⟨?_, fun e he => ?_⟩
  · unfold cItems cItem
    simp only [List.length_append, List.length_singleton, List.flatMap_append, List.flatMap_singleton, List.map_append]
    simp only [List.append_assoc] at H3
    exact H3
  · rcases List.mem_append.1 he with he | he
    · exact h.fit e he
    · obtain rfl := List.mem_singleton.1 he
      exact ⟨rfl, rfl⟩
end
/-- append(p.Claims, c). -/
theorem St.app {ops : Array Oper} {rest : List Oper} {o : Oper} {a : Act} {Q : Exit → Act → World → Prop} {w w1 : World} {base b0 b1 d c : Nat} {B A : Option Addr} {W : List ByteArray} {v : Value} {es : List El}
    (h : St w base b0 b1 B d W v A c es) (hbase : base ≤ w.heap.size) (hb : Below w.heap.size w w1) {i1 i2 : Int} {r1 r2 : Row} (o1 : r1.own w1 w.heap.size) (o2 : r2.own w1 w.heap.size) (ne : Apart r1.blk r2.blk)
    (N : Nat) (hN : N = w1.heap.size) (hgd : o.guard = none) (s x : Operand) (ho : o.op = .call { callee := .builtin .append, args := #[s, x], argTypes := #[28, 28] }) {n : Nat} (hn : es.length = n)
    (hs : a.eval s = .slice A n c) (hx : a.eval x = .slice (some ⟨N, 0, none⟩) 1 1) (hlen : n + 1 ≤ 100000000)
    (hk : ∀ g cap w', St w' base b0 b1 B d W v (some ⟨g, 0, none⟩) cap (es ++ [⟨[i1, i2], [r1, r2]⟩]) → w.heap.size ≤ w'.heap.size → Below base w w' → wpList Tryd.prog ops Q rest (a.put o.dst (.slice (some ⟨g, 0, none⟩) (n + 1) cap)) w') :
    wpList Tryd.prog ops Q (o :: rest) a (w1.alloc (.cells #[.int .i64 i1, .int .i64 i2, r1.val, r2.val] 47)) := by
  subst hn
  have hs1 := hb.size
  refine app4 w1 N hN 28 47 (.agg #[.int .i64 0, .int .i64 0, .slice none 0 0, .slice none 0 0]) 64 Tryd.underlying28 hI_claim rfl hgd s x ho base _ es.length _ hs (h.claims.below hb).outer (.int .i64 i1) (.int .i64 i2) r1.val r2.val (by
    intro u hu
    simp only [List.mem_cons, List.not_mem_nil, or_false] at hu
    rcases hu with rfl | rfl | rfl | rfl <;> rfl) hx hlen (by decide) (by omega) fun g cap w' a1 a2 a3 => ?_
  refine hk g cap w' (h.add hbase hb o1 o2 ne a1 a2 a3) (Nat.le_trans hs1 a2.size) ?_
  refine below_tr (hb.mono hbase) ⟨a2.os, a2.tape, a2.output, a2.size, fun b hlt => a2.block b (by omega) (fun e => ?_)⟩
  have := (h.claims.outer.lt b e.symm).1
  omega
end Go.Proofs.YtcogdogiceokdaaDoor
