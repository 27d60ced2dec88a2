/- Draws of a code and heaps. -/
import Derived.Test.YtoeacocijcammaaLpD
namespace Go.Proofs.Ytoeacocijcammaa
open Go.RowKit

/-- A code and heaps. -/
def Draw2P (w : World) (e : Ending) (w' : World) : Prop :=
  ∃ B c1 L gb c2 L2, e = .returned (.tuple #[.slice B L.length c1, .slice (some ⟨gb, 0, none⟩) L2.length c2]) ∧ RdI w' B L.length L ∧ RdI w' (some ⟨gb, 0, none⟩) L2.length L2 ∧ L.length ≤ 8 ∧ L2.length ≤ 22 ∧ L2.length ≤ c2 ∧ Below w.heap.size w w'
set_option maxHeartbeats 1600000 in
theorem c_DrawHeapsValue (A : Option Addr) (n c : Nat) (bs : List Int) (w : World) (hc : Code8 w A n bs) :
    Calls Try.prog 60 #[.slice A n c] w (Draw2P w) := by
  obtain ⟨hr, hf, hn⟩ := hc
  have hcur := cur_new (c := c) hr hf
  have HD := Lib.hid (c_l17DrawCode w.heap.size A n c bs 0 _ hcur (by omega) (by omega))
  clear hr hcur
  go_enter Try.func60, Try.ntmps60
  go_wp2_with fail
  refine HD.out.mono ?_
  rintro e w1 ⟨B, c1, L, rfl, hl, hD⟩
  have H1 := Lib.hid hD
  have HH := Lib.hid (c_l17DrawHeaps w.heap.size A n c bs _ w1 hD.cur (by omega) (by omega))
  have B1 : Hid (Below w.heap.size w w1) := Lib.hid (((Below.refl _ _).alloc (Nat.le_refl _) _).grown hD.grown (by simp) (fun k hk => by have := Option.some.inj hk; omega))
  clear HD hD
  go_wp2_with fail
  refine HH.out.mono ?_
  rintro e w2 ⟨gb, c2, L2, rfl, hl2, hD2⟩
  have R1 : Hid (RdI w2 B L.length L) := Lib.hid (OwnI.rd (own_kept H1.out.own hD2.grown (by
    cases e : (Value.slice B L.length c1).ownBlock with
    | none => exact .inl rfl
    | some k => exact .inr (fun e2 => by
        have := Option.some.inj e2
        have := (H1.out.own.lt k e).1
        simp at this; omega))))
  have R2 := Lib.hid (OwnI.rd hD2.own)
  have hc2 := own_cap hD2.own
  have B2 := Lib.hid (B1.out.grown hD2.grown B1.out.size (fun k hk => by have := Option.some.inj hk; omega))
  clear hD2 HH
  go_wp2_with fail
  exact bodyPost_ret (results_tmp2 rfl _ _ _) rfl ⟨B, c1, L, gb, c2, L2, rfl, R1.out, R2.out, hl, hl2, hc2, B2.out⟩
theorem c_DrawWinningHeaps (A : Option Addr) (n c : Nat) (bs : List Int) (w : World) (hc : Code8 w A n bs) :
    Calls Try.prog 37 #[.slice A n c] w (Draw2P w) := by
  have HD := Lib.hid (c_DrawHeapsValue A n c bs w hc)
  clear hc
  go_enter Try.func37, Try.ntmps37
  go_wp2_with fail
  refine HD.out.mono ?_
  rintro e w1 ⟨B, c1, L, gb, c2, L2, rfl, h⟩
  have H := Lib.hid h
  clear h
  go_wp2_with fail
  exact bodyPost_ret (results_tmp2 rfl _ _ _) rfl ⟨B, c1, L, gb, c2, L2, rfl, H.out⟩
theorem c_DrawPlayHeaps (A : Option Addr) (n c : Nat) (bs : List Int) (w : World) (hc : Code8 w A n bs) :
    Calls Try.prog 39 #[.slice A n c] w (Draw2P w) := by
  have HD := Lib.hid (c_DrawHeapsValue A n c bs w hc)
  clear hc
  go_enter Try.func39, Try.ntmps39
  go_wp2_with fail
  refine HD.out.mono ?_
  rintro e w1 ⟨B, c1, L, gb, c2, L2, rfl, h⟩
  have H := Lib.hid h
  clear h
  go_wp2_with fail
  exact bodyPost_ret (results_tmp2 rfl _ _ _) rfl ⟨B, c1, L, gb, c2, L2, rfl, H.out⟩
theorem c_rBig (A : Option Addr) (n c : Nat) (w : World) (hm : n ≤ maxLen) :
    Calls Try.prog 18 #[.slice A n c] w fun e w' => e = .returned (.bool (decide (65536 < (n : Int)))) ∧ w = w' := by
  unfold maxLen at hm
  go_enter Try.func18, Try.ntmps18
  go_wp2
  go_ret
  exact ⟨rfl, rfl⟩
end Go.Proofs.Ytoeacocijcammaa
