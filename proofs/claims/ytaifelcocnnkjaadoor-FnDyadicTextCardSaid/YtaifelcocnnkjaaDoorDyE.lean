/- Contracts: making, halving, adding, the birthday. -/
import Derived.Test.YtaifelcocnnkjaaDoorDyC
namespace Go.Proofs.YtaifelcocnnkjaaDoor
open Go.RowKit

set_option maxHeartbeats 1000000 in
theorem s_l2Make (t : Int) (p : Nat) (w : World) (h1 : -4611686018427387904 ≤ t) (h2 : t ≤ 4611686018427387904) (hp : p ≤ 100) :
    Calls Tryd.prog 58 #[.int .i64 t, .int .i64 p] w fun e w' => e = .returned (dv (red t p).1 (red t p).2) ∧ Below w.heap.size w w' := by
  go_enter Tryd.func58, Tryd.ntmps58
  go_wp2_with fail
  go_loop [0, 1] (fun a b => ∃ (t' : Int) (p' : Nat), a = .int .i64 t' ∧ b = .int .i64 p' ∧ p' ≤ 100 ∧ -4611686018427387904 ≤ t' ∧ t' ≤ 4611686018427387904 ∧ Hid (red t' p' = red t p)) (fun _ b => (intOf b).toNat)
  case atStart => exact ⟨t, p, rfl, rfl, hp, h1, h2, Lib.hid rfl⟩
  case round =>
    obtain ⟨t', p', rfl, rfl, hp', h1', h2', hred⟩ := hrel
    clear h1 h2 hp
    by_cases h0 : 0 < p'
    · by_cases he : t'.tmod 2 = 0
      · have hred' : Hid (red (t'.tdiv 2) (p' - 1) = red t p) := Lib.hid (by
          rw [← hred.out, show p' = (p' - 1) + 1 from by omega, red_even he]; simp)
        have hb1 : -4611686018427387904 ≤ t'.tdiv 2 := by have := Int.tmod_add_mul_tdiv t' 2; omega
        have hb2 : t'.tdiv 2 ≤ 4611686018427387904 := by have := Int.tmod_add_mul_tdiv t' 2; omega
        have he' : (t'.tmod 2 == 0) = true := by simp [he]
        clear he
        go_wp2_with fail
        go_round
        case rel => exact ⟨_, p' - 1, rfl, by simp only [Value.int.injEq, true_and]; omega, by omega, hb1, hb2, hred'⟩
        case measure => simp [intOf]; omega
      · have hres : Hid (red t p = (t', p')) := Lib.hid (by rw [← hred.out, show p' = (p' - 1) + 1 from by omega, red_odd he])
        have he' : (t'.tmod 2 == 0) = false := by simp [he]
        clear he
        go_wp2_with fail
        exact bodyPost_ret (v := dv t' p') (by simp [results, Tryd.results58, go_sem]) rfl ⟨by rw [hres.out], by go_grown⟩
    · obtain rfl : p' = 0 := by omega
      have hres : Hid (red t p = (t', 0)) := Lib.hid (by rw [← hred.out, red_zero])
      go_wp2_with fail
      exact bodyPost_ret (v := dv t' 0) (by simp [results, Tryd.results58, go_sem]) rfl ⟨by rw [hres.out]; rfl, by go_grown⟩

def ifV (t p : Int) : Int × Int × Bool := if gd t p then (t, p, true) else (0, 0, false)
theorem ifV_red (t : Int) (p : Nat) : ifV (red t p).1 (red t p).2 = lowV t p := rfl
set_option maxHeartbeats 1000000 in
theorem s_l2If (t p : Int) (w : World) :
    Calls Tryd.prog 57 #[dv t p] w fun e w' => e = .returned (rv (ifV t p)) ∧ Below w.heap.size w w' := by
  cases hg : gd t p
  · have fin : Hid (ifV t p = (0, 0, false)) := Lib.hid (by simp [ifV, hg])
    go_enter Tryd.func57, Tryd.ntmps57
    go_wp2_with fail
    refine (s_l2Good _ _ _).mono ?_
    rintro e w1 ⟨rfl, b1⟩
    obtain ⟨hc, hf⟩ := bcell b1
    have k0 : w1.cell? ⟨w.heap.size + 1, 0, none⟩ = some (.int .i64 0) := bkeep b1 _ _ (by simp)
    have k1 : w1.cell? ⟨w.heap.size + 1, 1, none⟩ = some (.int .i64 0) := bkeep b1 _ _ (by simp)
    have b2 : Below w.heap.size w w1 := Below.next (by go_grown) b1
    go_wp2_with fail
    exact bodyPost_ret (res_rv _ _ rfl rfl rfl (two_set k0 k1).1 (two_set k0 k1).2) rfl ⟨ret_rv fin.out, (b2.setCell (by simp) _).setCell (by simp) _⟩
  · have fin : Hid (ifV t p = (t, p, true)) := Lib.hid (by simp [ifV, hg])
    go_enter Tryd.func57, Tryd.ntmps57
    go_wp2_with fail
    refine (s_l2Good _ _ _).mono ?_
    rintro e w1 ⟨rfl, b1⟩
    obtain ⟨hc, hf⟩ := bcell b1
    have c0 : w1.cell? ⟨w.heap.size, 0, none⟩ = some (.int .i64 t) := bkeep b1 _ _ (by simp)
    have c1 : w1.cell? ⟨w.heap.size, 1, none⟩ = some (.int .i64 p) := bkeep b1 _ _ (by simp)
    have k0 : w1.cell? ⟨w.heap.size + 1, 0, none⟩ = some (.int .i64 0) := bkeep b1 _ _ (by simp)
    have k1 : w1.cell? ⟨w.heap.size + 1, 1, none⟩ = some (.int .i64 0) := bkeep b1 _ _ (by simp)
    have b2 : Below w.heap.size w w1 := Below.next (by go_grown) b1
    go_wp2_with fail
    exact bodyPost_ret (res_rv _ _ rfl rfl rfl (two_set k0 k1).1 (two_set k0 k1).2) rfl ⟨ret_rv fin.out, (b2.setCell (by simp) _).setCell (by simp) _⟩

def makeV (t p : Int) : Int × Int × Bool := if inB t (-1000000000) 1000000000 && inB p 0 16 then lowV t p.toNat else (0, 0, false)
set_option maxHeartbeats 1000000 in
theorem c_MakeDyadic (t p : Int) (w : World) :
    Calls Tryd.prog 23 #[.int .i64 t, .int .i64 p] w fun e w' => e = .returned (rv (makeV t p)) ∧ Below w.heap.size w w' := by
  by_cases h : (-1000000000 ≤ t ∧ t ≤ 1000000000) ∧ 0 ≤ p ∧ p ≤ 16
  · obtain ⟨⟨h1, h2⟩, h3, h4⟩ := h
    obtain ⟨p, rfl⟩ := Int.eq_ofNat_of_zero_le h3
    have fin : Hid (makeV t p = lowV t p) := Lib.hid (by unfold makeV; rw [inB_true.2 ⟨h1, h2⟩, inB_true.2 ⟨h3, h4⟩]; rfl)
    go_enter Tryd.func23, Tryd.ntmps23
    go_wp2_with fail
    refine (c_lowest _ _ _ (by omega) (by omega) (by omega)).mono ?_
    rintro e w1 ⟨rfl, b1⟩
    obtain ⟨m, Hm⟩ : ∃ m, Hid (makeV t p = m) := ⟨_, Lib.hid rfl⟩
    rw [← fin.out, Hm.out]
    obtain ⟨x, y, ok⟩ := m
    obtain ⟨hc, hf⟩ := bcell b1
    have k0 : w1.cell? ⟨w.heap.size, 0, none⟩ = some (.int .i64 0) := bkeep b1 _ _ (by simp)
    have k1 : w1.cell? ⟨w.heap.size, 1, none⟩ = some (.int .i64 0) := bkeep b1 _ _ (by simp)
    have b2 : Below w.heap.size w w1 := Below.next (by go_grown) b1
    go_wp2_with fail
    exact bodyPost_ret (res_rv _ _ rfl rfl rfl (two_set k0 k1).1 (two_set k0 k1).2) rfl ⟨ret_rv Hm.out, (b2.setCell (by simp) _).setCell (by simp) _⟩
  · have fin : Hid (makeV t p = (0, 0, false)) := Lib.hid (by
      unfold makeV
      rw [if_neg]
      rw [Bool.and_eq_true, inB_true, inB_true]
      exact h)
    by_cases c1 : t < -1000000000
    · go_enter Tryd.func23, Tryd.ntmps23
      go_wp2
      exact bodyPost_ret (v := rv (0, 0, false)) (by simp [results, Tryd.results23, go_sem]) rfl ⟨ret_rv fin.out, by go_grown⟩
    · by_cases c2 : 1000000000 < t
      · go_enter Tryd.func23, Tryd.ntmps23
        go_wp2
        exact bodyPost_ret (v := rv (0, 0, false)) (by simp [results, Tryd.results23, go_sem]) rfl ⟨ret_rv fin.out, by go_grown⟩
      · by_cases c3 : p < 0
        · go_enter Tryd.func23, Tryd.ntmps23
          go_wp2
          exact bodyPost_ret (v := rv (0, 0, false)) (by simp [results, Tryd.results23, go_sem]) rfl ⟨ret_rv fin.out, by go_grown⟩
        · have c4 : 16 < p := by omega
          clear h
          go_enter Tryd.func23, Tryd.ntmps23
          go_wp2
          exact bodyPost_ret (v := rv (0, 0, false)) (by simp [results, Tryd.results23, go_sem]) rfl ⟨ret_rv fin.out, by go_grown⟩
set_option maxHeartbeats 1000000 in
theorem s_MakeDyadic (t p : Int) (w : World) :
    Calls Tryd.prog 24 #[.int .i64 t, .int .i64 p] w fun e w' => e = .returned (rv (makeV t p)) ∧ Below w.heap.size w w' := by
  cases hb1 : inB t (-1000000000) 1000000000
  · have fin : Hid (makeV t p = (0, 0, false)) := Lib.hid (by simp [makeV, hb1])
    go_enter Tryd.func24, Tryd.ntmps24
    go_wp2_with (go_at_call 56; refine (c_l1In _ _ _ _).mono ?_; rintro e w' ⟨rfl, rfl⟩)
    exact bodyPost_ret (v := rv (0, 0, false)) (by simp [results, Tryd.results24, go_sem]) rfl ⟨ret_rv fin.out, by go_grown⟩
  · cases hb2 : inB p 0 16
    · have fin : Hid (makeV t p = (0, 0, false)) := Lib.hid (by simp [makeV, hb2])
      go_enter Tryd.func24, Tryd.ntmps24
      go_wp2_with (go_at_call 56; refine (c_l1In _ _ _ _).mono ?_; rintro e w' ⟨rfl, rfl⟩)
      exact bodyPost_ret (v := rv (0, 0, false)) (by simp [results, Tryd.results24, go_sem]) rfl ⟨ret_rv fin.out, by go_grown⟩
    · obtain ⟨h1, h2⟩ := inB_true.1 hb1
      obtain ⟨h3, h4⟩ := inB_true.1 hb2
      obtain ⟨p, rfl⟩ := Int.eq_ofNat_of_zero_le h3
      have fin : Hid (makeV t p = lowV t p) := Lib.hid (by unfold makeV; rw [hb1, hb2]; rfl)
      go_enter Tryd.func24, Tryd.ntmps24
      go_wp2_with (go_at_call 56; refine (c_l1In _ _ _ _).mono ?_; rintro e w' ⟨rfl, rfl⟩)
      refine (s_l2Make _ _ _ (by omega) (by omega) (by omega)).mono ?_
      rintro e w1 ⟨rfl, b1⟩
      obtain ⟨hc, hf⟩ := bcell b1
      have k0 : w1.cell? ⟨w.heap.size, 0, none⟩ = some (.int .i64 0) := bkeep b1 _ _ (by simp)
      have k1 : w1.cell? ⟨w.heap.size, 1, none⟩ = some (.int .i64 0) := bkeep b1 _ _ (by simp)
      have f0 : ∀ o, w1.frozen? ⟨w.heap.size, o, none⟩ = false := fun o => ((bcell b1).2 _ _ (by simp)).trans (by simp)
      have b2 : Below w.heap.size w w1 := Below.next (by go_grown) b1
      clear hc hf
      go_wp2_with fail
      refine (s_l2If _ _ _).mono ?_
      rintro e w2 ⟨rfl, b3⟩
      obtain ⟨m, Hm⟩ : ∃ m, Hid (makeV t p = m) := ⟨_, Lib.hid rfl⟩
      rw [ifV_red, ← fin.out, Hm.out]
      obtain ⟨x, y, ok⟩ := m
      have k0' : w2.cell? ⟨w.heap.size, 0, none⟩ = some (.int .i64 0) := bkeep b3 _ _ k0
      have k1' : w2.cell? ⟨w.heap.size, 1, none⟩ = some (.int .i64 0) := bkeep b3 _ _ k1
      have f0' : ∀ o, w2.frozen? ⟨w.heap.size, o, none⟩ = false := fun o => ((bcell b3).2 _ _ (cell_lt k0)).trans (f0 o)
      clear k0 k1 f0
      go_wp2_with fail
      exact bodyPost_ret (res_rv _ _ rfl rfl rfl (two_set k0' k1').1 (two_set k0' k1').2) rfl ⟨ret_rv Hm.out, (((Below.next b2 b3).setCell (by simp) _).setCell (by simp) _)⟩

def halfV (t p : Int) : Int × Int × Bool := if gd t p then lowV t (p.toNat + 1) else (0, 0, false)
end Go.Proofs.YtaifelcocnnkjaaDoor
