/- The reference's PlayHeaps. -/
import Derived.Test.YtoeacocijcammaaLmA
import Derived.Test.YtoeacocijcammaaLmE
import Derived.Test.YtoeacocijcammaaPlP
namespace Go.Proofs.Ytoeacocijcammaa
open Go.RowKit

def phC (xs hs : List Int) : List (List Int) × Bool := if goodC xs && goodH hs then (plays xs (fil hs), true) else ([], false)
theorem phC_code {xs hs : List Int} (h : goodC xs = false) : phC xs hs = ([], false) := by simp [phC, h]
theorem phC_heaps {xs hs : List Int} (h : goodH hs = false) : phC xs hs = ([], false) := by simp [phC, h]
theorem phC_in {xs hs : List Int} (h : goodC xs = true) (h2 : goodH hs = true) : phC xs hs = (plays xs (fil hs), true) := by simp [phC, h, h2]
theorem fst_cons {xs F : List Int} {i r : Nat} {m : List Int} {l : List (List Int)} (h : moves xs (F.getD i 0).toNat = m :: l) : fstF xs F (r + 1) i = some (aft F i m) := by unfold fstF; rw [h]
theorem fst_nil {xs F : List Int} {i r : Nat} (h : moves xs (F.getD i 0).toNat = []) : fstF xs F (r + 1) i = fstF xs F r (i + 1) := by
  conv => lhs; unfold fstF
  rw [h]
/-- A heap's row that is read, with room, not in block g. -/
def Hp (w : World) (g : Nat) (r : Row) : Prop := Far w g [r] ∧ r.xs.length ≤ r.c ∧ ∃ b o, r.A = some ⟨b, o, none⟩
theorem Hp.rd {w : World} {g : Nat} {r : Row} (h : Hp w g r) : r.rd w := (h.1 r (List.mem_singleton.2 rfl)).1
theorem srtR_after {F : List Int} {i : Nat} {m : List Int} (hp : ∀ x ∈ F, 1 ≤ x) (hm : ∀ x ∈ m, 1 ≤ x) : srtR [] (F.take i ++ F.drop (i + 1) ++ m) = aft F i m := by
  rw [srtR_pos]; rfl
  intro x hx
  simp only [List.mem_append] at hx
  rcases hx with (h | h) | h
  · exact hp x (List.mem_of_mem_take h)
  · exact hp x (List.mem_of_mem_drop h)
  · exact hm x h
theorem Hp.below {w w' : World} {g : Nat} {r : Row} (h : Hp w g r) (hb : Below w.heap.size w w') : Hp w' g r := ⟨h.1.below hb, h.2⟩
theorem Hp.after {w w1 w' : World} {g g' : Nat} {r : Row} (h : Hp w g r) (hb : Below w.heap.size w w1) (hg : w1.grownBy w' (some g)) (h3 : some g = some g' ∨ w1.heap.size ≤ g') : Hp w' g' r := ⟨h.1.after hb hg h3, h.2⟩
/-- Rows that are read, in a row of the call's own. -/
structure Rw (w wx : World) (g c : Nat) (rs : List Row) (L : List (List Int)) : Prop where
  own : wx.ownsRow w.heap.size 22 1 (.slice (some ⟨g, 0, none⟩) rs.length c) rs.length (rs.map Row.val)
  far : Far wx g rs
  num : nums rs = L
  below : Below w.heap.size w wx
  addr : ∀ r ∈ rs, ∃ b o, r.A = some ⟨b, o, none⟩
theorem Rw.len {w wx : World} {g c : Nat} {rs : List Row} {L : List (List Int)} (h : Rw w wx g c rs L) : rs.length = L.length := by rw [← h.num]; simp
theorem Rw.q {w wx wy : World} {g c : Nat} {rs : List Row} {L : List (List Int)} (h : Rw w wx g c rs L) (hb : Below wx.heap.size wx wy) : Rw w wy g c rs L := ⟨own_below h.own hb, h.far.below hb, h.num, Below.next h.below hb, h.addr⟩
theorem Rw.add {w wx w' : World} {g c g' cap : Nat} {rs : List Row} {L : List (List Int)} {r : Row} (h : Rw w wx g c rs L) (hr : Hp wx g r)
    (h1 : w'.ownsRow w.heap.size 22 1 (.slice (some ⟨g', 0, none⟩) (rs.length + 1) cap) (rs.length + 1) (rs.map Row.val ++ [r.val])) (h2 : wx.grownBy w' (some g)) (h3 : some g = some g' ∨ wx.heap.size ≤ g') : Rw w w' g' cap (rs ++ [r]) (L ++ [r.xs]) := by
  refine ⟨by simpa using h1, fun s hs => ?_, by unfold nums; rw [List.map_append]; exact congrArg (· ++ [r.xs]) h.num, h.below.grown h2 h.below.size (fun j hj => by
    have := Option.some.inj hj
    have := (h.own.lt g rfl).1
    omega), fun s hs => ?_⟩
  · rcases List.mem_append.1 hs with hs | hs
    · exact (h.far.after (Below.refl _ _) h2 h3) s hs
    · obtain rfl := List.mem_singleton.1 hs
      exact (hr.1.after (Below.refl _ _) h2 h3) s (List.mem_singleton.2 rfl)
  · rcases List.mem_append.1 hs with hs | hs
    · exact h.addr s hs
    · obtain rfl := List.mem_singleton.1 hs
      exact hr.2.2
theorem Hp.new {wx : World} {g : Nat} {r : Row} (hr : r.rd wx) (hl : r.xs.length ≤ r.c) (hA : ∃ b o, r.A = some ⟨b, o, none⟩) (hg : ∀ b o, r.A = some ⟨b, o, none⟩ → b ≠ g) : Hp wx g r :=
  ⟨fun s hs => by
    obtain rfl := List.mem_singleton.1 hs
    refine ⟨hr, fun _ e => ?_⟩
    obtain ⟨b, o, hA⟩ := hA
    have : s.blk = some b := by unfold Row.blk Row.val; rw [hA]; rfl
    rw [this] at e
    exact hg b o hA (Option.some.inj e), hl, hA⟩
end Go.Proofs.Ytoeacocijcammaa
