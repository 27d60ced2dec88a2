/- Appending one element to a slice of the call's own; reading such a slice. -/
import Derived.Test.YtcogdogiceokdaaDoorMem
import Derived.Maps.AppendAt
import Derived.Handy
namespace Go.Proofs.YtcogdogiceokdaaDoor
open Go.RowKit

theorem cell_alloc {w : World} {a : Addr} {u : Value} (h : w.cell? a = some u) (o : Obj) : (w.alloc o).cell? a = some u := (((Below.refl w.heap.size w).alloc (Nat.le_refl _) o).cell (cell_lt h)).trans h
theorem app1 {P : Program} {ops : Array Oper} {rest : List Oper} {o : Oper} {a : Act} {Q : Exit → Act → World → Prop} (w : World) (T E : TypeId) (z : Value) (bytes : Nat)
    (hT : P.underlying T = some (.slice E)) (hI : (P.info? E).map (fun i => (i.zero, i.size, i.bytes)) = some (some z, 1, bytes)) (hz : z.cells.size = 1) (hgd : o.guard = none) (s x : Operand)
    (ho : o.op = .call { callee := .builtin .append, args := #[s, x], argTypes := #[T, T] })
    (base : Nat) (v : Value) (n : Nat) (xs : List Value) (hs : a.eval s = v) (hown : w.ownsRow base E 1 v n xs) (u : Value) (hu : u.oneCell' = true)
    (hx : a.eval x = .slice (some ⟨w.heap.size, 0, none⟩) 1 1) (hlen : n + 1 ≤ 100000000) (hby : bytes ≤ 1000) (hbase : base ≤ w.heap.size)
    (h : ∀ g cap w', w'.ownsRow base E 1 (.slice (some ⟨g, 0, none⟩) (n + 1) cap) (n + 1) (xs ++ [u]) → w.grownBy w' v.ownBlock → (v.ownBlock = some g ∨ w.heap.size ≤ g) →
      wpList P ops Q rest (a.put o.dst (.slice (some ⟨g, 0, none⟩) (n + 1) cap)) w') :
    wpList P ops Q (o :: rest) a (w.alloc (.cells #[u] E)) := by
  obtain ⟨i, hi, hz0, hz1, hz2⟩ := info_parts hI
  refine wpList_append_own_at (w.alloc (.cells #[u] E)) hgd s x T ho base E i z 1 bytes hT hi hz0 hz1 hz2 hz (by decide) v n xs hs (hown.alloc _) ⟨w.heap.size, 0, none⟩ 1 1 [u] hx rfl
    (cell_one_new w u E) (by intro y hy; simp at hy; subst hy; exact hu) (by unfold maxLen; omega) ?_ (by simp; omega) ?_
  · have : (n + 1) * bytes ≤ 100000000 * 1000 := Nat.mul_le_mul hlen hby
    omega
  · intro v' w' h1 h2 h3 h4
    rcases h1.2 with ⟨he, hn⟩ | ⟨g, cap, cur, he, r⟩
    · exact absurd hn (by omega)
    · subst he
      refine h g cap w' h1 ((World.grownBy_alloc w _ _).trans h2) ?_
      rcases h4 with h4 | h4
      · left; rw [← h4]; rfl
      · right
        simp [Value.ownBlock] at h4
        omega
/-- .. where the new element's block is told by a number. -/
theorem app1n {P : Program} {ops : Array Oper} {rest : List Oper} {o : Oper} {a : Act} {Q : Exit → Act → World → Prop} (w : World) (N : Nat) (hN : N = w.heap.size) (T E : TypeId) (z : Value) (bytes : Nat)
    (hT : P.underlying T = some (.slice E)) (hI : (P.info? E).map (fun i => (i.zero, i.size, i.bytes)) = some (some z, 1, bytes)) (hz : z.cells.size = 1) (hgd : o.guard = none) (s x : Operand)
    (ho : o.op = .call { callee := .builtin .append, args := #[s, x], argTypes := #[T, T] })
    (base : Nat) (v : Value) (n : Nat) (xs : List Value) (hs : a.eval s = v) (hown : w.ownsRow base E 1 v n xs) (u : Value) (hu : u.oneCell' = true)
    (hx : a.eval x = .slice (some ⟨N, 0, none⟩) 1 1) (hlen : n + 1 ≤ 100000000) (hby : bytes ≤ 1000) (hbase : base ≤ w.heap.size)
    (h : ∀ g cap w', w'.ownsRow base E 1 (.slice (some ⟨g, 0, none⟩) (n + 1) cap) (n + 1) (xs ++ [u]) → w.grownBy w' v.ownBlock → (v.ownBlock = some g ∨ w.heap.size ≤ g) →
      wpList P ops Q rest (a.put o.dst (.slice (some ⟨g, 0, none⟩) (n + 1) cap)) w') :
    wpList P ops Q (o :: rest) a (w.alloc (.cells #[u] E)) := by
  subst hN
  exact app1 w T E z bytes hT hI hz hgd s x ho base v n xs hs hown u hu hx hlen hby hbase h
/-- append of a whole slice to a new empty one. -/
theorem app_copy {P : Program} {ops : Array Oper} {rest : List Oper} {o : Oper} {a : Act} {Q : Exit → Act → World → Prop} (w : World) (T E : TypeId) (z : Value) (bytes : Nat)
    (hT : P.underlying T = some (.slice E)) (hI : (P.info? E).map (fun i => (i.zero, i.size, i.bytes)) = some (some z, 1, bytes)) (hz : z.cells.size = 1) (hgd : o.guard = none) (s x : Operand)
    (ho : o.op = .call { callee := .builtin .append, args := #[s, x], argTypes := #[T, T] })
    (g m c : Nat) (us : List Value) (hus : us.length = m) (hcells : ∀ j u, us[j]? = some u → w.cell? ((⟨g, 0, none⟩ : Addr).add j) = some u) (hone : ∀ u ∈ us, u.oneCell' = true)
    (hs : a.eval s = .slice (some ⟨w.heap.size, 0, none⟩) 0 0) (hx : a.eval x = .slice (some ⟨g, 0, none⟩) m c) (hlen : m ≤ 100000000) (hby : bytes ≤ 1000)
    (h : ∀ g' cap w', w'.ownsRow w.heap.size E 1 (.slice (some ⟨g', 0, none⟩) m cap) m us → Below w.heap.size w w' → wpList P ops Q rest (a.put o.dst (.slice (some ⟨g', 0, none⟩) m cap)) w') :
    wpList P ops Q (o :: rest) a (w.alloc (.cells #[] E)) := by
  obtain ⟨i, hi, hz0, hz1, hz2⟩ := info_parts hI
  refine wpList_append_own_at (w.alloc (.cells #[] E)) hgd s x T ho w.heap.size E i z 1 bytes hT hi hz0 hz1 hz2 hz (by decide) _ 0 [] hs (World.ownsRow_lit w #[] 0 (Nat.le_refl _) (Nat.zero_le _) rfl) ⟨g, 0, none⟩ m c us hx (by omega)
    (fun j u hj => cell_alloc (hcells j u hj) _) hone (by unfold maxLen; omega) ?_ (by simp) ?_
  · have : (0 + m) * bytes ≤ 100000000 * 1000 := Nat.mul_le_mul (by omega) hby
    omega
  · intro v' w' h1 h2 h3 h4
    rw [Nat.zero_add] at h1
    rcases h1.2 with ⟨he, hn⟩ | ⟨g', cap, cur, he, r⟩
    · have := (h3.1 he).1
      cases this
    · subst he
      refine h g' cap w' h1 ?_
      exact ((Below.refl _ _).alloc (Nat.le_refl _) _).grown h2 (by simp) (fun k hk => by have := Option.some.inj (show some w.heap.size = some k from hk); omega)
/-- A slice of the call's own, whose length is known, reads as its cells. -/
theorem RdV.of_own {w : World} {base : Nat} {E : TypeId} {A : Option Addr} {n c : Nat} {xs : List Value} (h : w.ownsRow base E 1 (.slice A n c) n xs) : RdV w A n xs := by
  refine ⟨by have := h.1; omega, fun hn => ?_⟩
  rcases h.2 with ⟨he, h0⟩ | ⟨g, cap, cur, he, r⟩
  · exact absurd h0 (by omega)
  · injection he with e1 e2 e3
    subst e1 e3
    refine ⟨g, 0, rfl, fun i u hu => ?_⟩
    obtain ⟨hi, _⟩ := List.getElem?_eq_some_iff.1 hu
    rw [Nat.zero_add, h.cellAt i (by have := h.1; omega), hu]
/-- What is owned is kept where only another block, and what is new, has turned. -/
theorem own_kept {w w' : World} {base : Nat} {E : TypeId} {v : Value} {n : Nat} {xs : List Value} {row : Option Nat} (h : w.ownsRow base E 1 v n xs) (hg : w.grownBy w' row) (hne : v.ownBlock = none ∨ v.ownBlock ≠ row) :
    w'.ownsRow base E 1 v n xs := h.kept hg hne
theorem own_below {w w' : World} {base : Nat} {E : TypeId} {v : Value} {n : Nat} {xs : List Value} (h : w.ownsRow base E 1 v n xs) (hb : Below w.heap.size w w') : w'.ownsRow base E 1 v n xs :=
  h.kept (row := none) ⟨hb.os, hb.tape, hb.output, hb.size, fun k hk _ => hb.block k hk⟩ (by cases v.ownBlock <;> simp)
theorem own_lit0 (w : World) (E : TypeId) (base : Nat) (hb : base ≤ w.heap.size) : (w.alloc (.cells #[] E)).ownsRow base E 1 (.slice (some ⟨w.heap.size, 0, none⟩) 0 0) 0 [] :=
  World.ownsRow_lit w #[] 0 hb (Nat.zero_le _) rfl
end Go.Proofs.YtcogdogiceokdaaDoor
