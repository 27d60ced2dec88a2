/- The program's PlayHeaps: Clone, the closure, played. -/
import Derived.Test.YtoeacocijcammaaLnC
import Derived.Test.YtoeacocijcammaaShelf
namespace Go.Proofs.Ytoeacocijcammaa
open Go.RowKit

theorem own_of_res {w : World} {base n : Nat} {v : Value} {xs : List Int} (h : w.ownsRow base 3 1 v n (xs.map (Value.int .i64))) : ∃ A c, v = .slice A xs.length c ∧ OwnI w base A c xs := by
  have hn : xs.length = n := by have := h.1; simpa using this
  subst hn
  rcases h.2 with ⟨he, h0⟩ | ⟨g, cap, cur, he, r⟩
  · subst he; rw [h0] at h ⊢
    refine ⟨none, 0, rfl, ?_⟩
    unfold OwnI; rw [h0]; exact h
  · subst he; exact ⟨_, _, rfl, h⟩
theorem c_clone (A : Option Addr) (c : Nat) (xs : List Int) (w : World) (rd : RdI w A xs.length xs) (hn : xs.length ≤ 100000000) :
    Calls Try.prog 71 #[.slice A xs.length c] w fun e w' => ∃ A' c', e = .returned (.slice A' xs.length c') ∧ OwnI w' w.heap.size A' c' xs ∧ Below w.heap.size w w' := by
  rcases Nat.eq_zero_or_pos xs.length with h0 | h0
  · obtain rfl := List.length_eq_zero_iff.1 h0
    cases A with
    | none =>
      refine (Try.slices_Clone_int_nil _ c w).mono ?_
      rintro e w' ⟨rfl, rfl⟩
      exact ⟨none, 0, rfl, ⟨rfl, .inl ⟨rfl, rfl⟩⟩, Below.refl _ _⟩
    | some a =>
      refine (Try.slices_Clone_int_zero a c w).mono ?_
      rintro e w' ⟨v', rfl, h1, _, h2⟩
      obtain ⟨A', c', rfl, h3⟩ := own_of_res (xs := []) h1
      exact ⟨A', c', rfl, h3, h2⟩
  · obtain ⟨b, off, rfl, _, _⟩ := rd.at_ h0
    refine (Try.slices_Clone_int b off xs.length c xs w (Nat.le_refl _) (by omega) (fun j hj => ?_)).mono ?_
    · obtain ⟨_, _, e, _, hc⟩ := rd.at_ hj
      cases e; exact hc
    · rintro e w' ⟨v', rfl, h1, _, h2⟩
      rw [List.take_length] at h1
      obtain ⟨A', c', rfl, h3⟩ := own_of_res h1
      exact ⟨A', c', rfl, h3, h2⟩
set_option maxRecDepth 100000 in
theorem c_best (bnd : Bnd) (A : Option Addr) (c : Nat) (xs : List Int) (B : Option Addr) (d : Nat) (F : List Int) (V : Option Addr) (cv : Nat) (b1 b2 : Nat) (w : World) (rd : RdI w A xs.length xs) (hg : goodC xs = true) (rh : RdI w B F.length F) (rt : Tbl w V 301 xs)
    (h1 : w.cell? ⟨b1, 0, none⟩ = some (.slice A xs.length c)) (h2 : w.cell? ⟨b2, 0, none⟩ = some (.slice V 301 cv)) (hpos : Pos F) (hsum : F.sum ≤ 6000) :
    Calls Try.prog 58 #[.slice B F.length d, .pointer (some ⟨b1, 0, none⟩), .pointer (some ⟨b2, 0, none⟩)] w fun e w' => ∃ g c' rs, e = .returned (.slice (some ⟨g, 0, none⟩) rs.length c') ∧ Rc w w' g c' rs (win xs F) := by
  have hl := hpos.len
  have HW := c_winning bnd A c xs B F.length d F V cv w rd hg rh rt (fun x hx => (hpos.2 x hx).2) (by rw [fil_of_pos hpos]; exact hsum) (by omega)
  rw [fil_of_pos hpos] at HW
  clear rd rh rt hg hpos bnd hl
  go_enter Try.func58, Try.ntmps58
  go_wp2_with fail
  refine HW.mono ?_
  rintro e w2 ⟨g, c', rs, rfl, h⟩
  have H := Lib.hid h
  clear h
  go_wp2_with fail
  go_ret
  exact ⟨g, c', rs, rfl, H.out⟩
end Go.Proofs.Ytoeacocijcammaa
