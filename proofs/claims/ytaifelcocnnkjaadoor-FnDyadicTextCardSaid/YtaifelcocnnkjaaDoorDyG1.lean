/- A draw: one number. -/
import Derived.Test.YtaifelcocnnkjaaDoorDyQ
namespace Go.Proofs.YtaifelcocnnkjaaDoor
open Go.RowKit

def OneA (w : World) (e : Ending) (w' : World) : Prop := ∃ t p : Int, e = .returned (dv t p) ∧ Below w.heap.size w w'
set_option maxHeartbeats 1000000 in
theorem c_DrawGoodDyadic (A : Option Addr) (n c : Nat) (bs : List Int) (w : World) (hc : Code8 w A n bs) :
    Calls Tryd.prog 42 #[.slice A n c] w (OneA w) := by
  obtain ⟨hr, hf, hn⟩ := hc
  obtain ⟨W2, hW2⟩ : ∃ W2, W2 = w.alloc (.cells #[.int .i64 0, .int .i64 0] 41) := ⟨_, rfl⟩
  have BW : Below w.heap.size w W2 := by rw [hW2]; exact (Below.refl _ _).alloc (Nat.le_refl _) _
  have hcur := cur_new (c := c) (hr.below BW) hf
  have hz : W2.heap.size = w.heap.size + 1 := by rw [hW2]; simp
  have R2 : Bx W2 w.heap.size 0 0 := by rw [hW2]; exact Bx.new w 0 0 _
  have H2 := Lib.hid R2
  clear R2 hr
  rw [hz] at hcur
  rw [hW2] at hcur
  go_enter Tryd.func42, Tryd.ntmps42
  go_wp2_with fail
  refine (c_anyDyadic _ A n c bs _ _ hcur (by omega) (by omega)).mono ?_
  rintro e w1 ⟨t, p, rfl, t0, t1, p0, p1, hc1, gr1⟩
  rw [← hW2] at gr1
  have R2 := (H2.out.below ((Below.refl _ _).alloc (Nat.le_refl _) (.cells #[.slice A n c, .int .i64 0, .int .u64 0] 77))).grown gr1 (fun e => by have := Option.some.inj e; omega)
  have B1 : Below w.heap.size w w1 := (BW.alloc (by omega) (.cells #[.slice A n c, .int .i64 0, .int .u64 0] 77)).grown gr1 (by simp; omega) (fun k hk => by have := Option.some.inj hk; omega)
  clear hcur gr1 hc1 H2 BW hW2 hz
  obtain ⟨r0, r1, rf⟩ := R2
  go_wp2_with fail
  exact bodyPost_ret (res_dv _ _ rfl rfl (two_set r0 r1).1 (two_set r0 r1).2) rfl ⟨t, p, rfl, (B1.setCell (by simp) _).setCell (by simp) _⟩
end Go.Proofs.YtaifelcocnnkjaaDoor
