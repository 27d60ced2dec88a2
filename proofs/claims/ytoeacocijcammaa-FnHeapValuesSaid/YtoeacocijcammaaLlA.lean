/- Slices of slices of ints: how they are read, how they are owned, appending a row, sorting the rows. -/
import Derived.Test.YtoeacocijcammaaMarks
import Derived.Test.YtoeacocijcammaaGen
import Derived.Test.YtoeacocijcammaaLlP
import Derived.Sort.Grow
namespace Go.Proofs.Ytoeacocijcammaa
open Go.RowKit

/-- A row: where it lies, its capacity, its numbers. -/
structure Row where
  A : Option Addr
  c : Nat
  xs : List Int
def Row.val (r : Row) : Value := .slice r.A r.xs.length r.c
def Row.blk (r : Row) : Option Nat := r.val.ownBlock
abbrev Row.rd (w : World) (r : Row) : Prop := RdI w r.A r.xs.length r.xs
abbrev Row.own (w : World) (base : Nat) (r : Row) : Prop := OwnI w base r.A r.c r.xs
theorem Row.one (r : Row) : r.val.oneCell' = true := rfl
abbrev nums (rs : List Row) : List (List Int) := rs.map Row.xs

/-- The slice value '.slice A n _' reads as these rows. -/
def RdL (w : World) (A : Option Addr) (n : Nat) (rs : List Row) : Prop := RdV w A n (rs.map Row.val) ∧ ∀ r ∈ rs, r.rd w
section
variable {w w' : World} {A : Option Addr} {n : Nat} {rs : List Row}
theorem RdL.len (h : RdL w A n rs) : rs.length = n := by simpa using h.1.len
theorem RdL.below (h : RdL w A n rs) (hb : Below w.heap.size w w') : RdL w' A n rs := ⟨h.1.below hb, fun r hr => (h.2 r hr).below hb⟩
theorem RdL.q (h : RdL w A n rs) (hq : Q w w') : RdL w' A n rs := ⟨h.1.q hq, fun r hr => (h.2 r hr).q hq⟩
theorem RdL.at_ (h : RdL w A n rs) {k : Nat} (hk : k < n) : ∃ b off, A = some ⟨b, off, none⟩ ∧ b < w.heap.size ∧ ∃ r, rs[k]? = some r ∧ r ∈ rs ∧ (nums rs).getD k [] = r.xs ∧ r.rd w ∧ w.cell? ⟨b, off + k, none⟩ = some (.slice r.A r.xs.length r.c) := by
  obtain ⟨b, off, hA, hb, hc⟩ := RdV.at_ h.1 hk
  have hl : k < rs.length := by rw [h.len]; exact hk
  refine ⟨b, off, hA, hb, rs[k], by simp [hl], List.getElem_mem hl, by simp [hl], h.2 _ (List.getElem_mem hl), ?_⟩
  exact hc k rs[k].val (by simp [hl])
end

/-- A slice of rows of the call's own: each row its own block. -/
structure OwnL (w : World) (base : Nat) (A : Option Addr) (c : Nat) (rs : List Row) : Prop where
  outer : w.ownsRow base 22 1 (.slice A rs.length c) rs.length (rs.map Row.val)
  rows : ∀ r ∈ rs, r.own w base
  away : ∀ r ∈ rs, r.blk = none ∨ r.blk ≠ (Value.slice A rs.length c).ownBlock
  apart : rs.Pairwise fun r s => r.blk = none ∨ r.blk ≠ s.blk
section
variable {w w' : World} {base : Nat} {A : Option Addr} {c : Nat} {rs : List Row}
theorem OwnL.rd (h : OwnL w base A c rs) : RdL w A rs.length rs := ⟨by simpa using RdV.of_own h.outer, fun r hr => (h.rows r hr).rd⟩
theorem OwnL.below (h : OwnL w base A c rs) (hb : Below w.heap.size w w') : OwnL w' base A c rs :=
  ⟨own_below h.outer hb, fun r hr => own_below (h.rows r hr) hb, h.away, h.apart⟩
theorem OwnL.q (h : OwnL w base A c rs) (hq : Q w w') : OwnL w' base A c rs := h.below hq.below
theorem OwnL.lit0 (w : World) (base : Nat) (hb : base ≤ w.heap.size) : OwnL (w.alloc (.cells #[] 22)) base (some ⟨w.heap.size, 0, none⟩) 0 [] :=
  ⟨own_lit0 w _ _ hb, fun r hr => by simp at hr, fun r hr => by simp at hr, List.Pairwise.nil⟩
theorem OwnL.nil (w : World) (base : Nat) : OwnL w base none 0 [] :=
  ⟨⟨rfl, .inl ⟨rfl, rfl⟩⟩, fun r hr => by simp at hr, fun r hr => by simp at hr, List.Pairwise.nil⟩
theorem own_low {base' : Nat} {E : TypeId} {v : Value} {n : Nat} {us : List Value} (h : w.ownsRow base E 1 v n us) (hb : base' ≤ base) : w.ownsRow base' E 1 v n us := by
  obtain ⟨h0, h1⟩ := h
  refine ⟨h0, ?_⟩
  rcases h1 with h1 | ⟨g, cap, cur, e, hg, r⟩
  · exact .inl h1
  · exact .inr ⟨g, cap, cur, e, Nat.le_trans hb hg, r⟩
theorem OwnL.low (h : OwnL w base A c rs) {base' : Nat} (hb : base' ≤ base) : OwnL w base' A c rs :=
  ⟨own_low h.outer hb, fun r hr => own_low (h.rows r hr) hb, h.away, h.apart⟩
/-- What is owned as a row is kept where another block, and what is new, has turned. -/
theorem Row.own.kept {r : Row} (h : r.own w base) {row : Option Nat} (hg : w.grownBy w' row) (hne : r.blk = none ∨ r.blk ≠ row) : r.own w' base := own_kept h hg hne
/-- A row is appended: the outer slice has grown, the new row lies elsewhere. -/
theorem OwnL.add (h : OwnL w base A c rs) {g cap : Nat} {r : Row} (h1 : w'.ownsRow base 22 1 (.slice (some ⟨g, 0, none⟩) (rs.length + 1) cap) (rs.length + 1) (rs.map Row.val ++ [r.val]))
    (h2 : w.grownBy w' (Value.slice A rs.length c).ownBlock) (h3 : (Value.slice A rs.length c).ownBlock = some g ∨ w.heap.size ≤ g) (hr : r.own w base) (hne : r.blk = none ∨ r.blk ≠ (Value.slice A rs.length c).ownBlock)
    (hne2 : ∀ s ∈ rs, s.blk = none ∨ s.blk ≠ r.blk) : OwnL w' base (some ⟨g, 0, none⟩) cap (rs ++ [r]) := by
  have hold : ∀ s : Row, s.own w base → (s.blk = none ∨ s.blk ≠ (Value.slice A rs.length c).ownBlock) → s.blk = none ∨ s.blk ≠ some g := by
    intro s hs hn
    rcases hn with hn | hn
    · exact .inl hn
    · rcases h3 with h3 | h3
      · exact .inr (by rw [← h3]; exact hn)
      · right
        intro e
        have := (hs.lt g e).2
        omega
  refine ⟨by simpa using h1, ?_, ?_, ?_⟩
  · intro s hs
    rcases List.mem_append.1 hs with hs | hs
    · exact Row.own.kept (h.rows s hs) h2 (h.away s hs)
    · obtain rfl := List.mem_singleton.1 hs
      exact Row.own.kept hr h2 hne
  · intro s hs
    rcases List.mem_append.1 hs with hs | hs
    · exact hold s (h.rows s hs) (h.away s hs)
    · obtain rfl := List.mem_singleton.1 hs
      exact hold s hr hne
  · rw [List.pairwise_append]
    refine ⟨h.apart, List.pairwise_singleton _ _, fun a ha b hb => ?_⟩
    obtain rfl := List.mem_singleton.1 hb
    exact hne2 a ha
end
end Go.Proofs.Ytoeacocijcammaa
