/- Texts of dyadic numbers, by the program and by the reference; the walk of the law on DyadicText. -/
import Derived.Test.YtaifelcocnnkjaaDoorNtG
import Derived.Test.YtaifelcocnnkjaaDoorDyA
namespace Go.Proofs.YtaifelcocnnkjaaDoor
open Go.RowKit

/-- The text of a dyadic number. -/
def dyB (t p : Int) : ByteArray := if p = 0 then strOfNums (numB t) else strOfNums (numB t) ++ ⟨#[47]⟩ ++ strOfNums (numB (2 ^ p.toNat))
theorem pw_bd {p : Int} (h1 : p ≤ 16) : (1 : Int) ≤ 2 ^ p.toNat ∧ (2 : Int) ^ p.toNat ≤ 65536 := by
  have h2 : (2 : Nat) ^ p.toNat ≤ 2 ^ 16 := Nat.pow_le_pow_right (by omega) (by omega)
  have h3 : 1 ≤ (2 : Nat) ^ p.toNat := Nat.one_le_two_pow
  have e : (2 : Int) ^ p.toNat = ((2 ^ p.toNat : Nat) : Int) := by simp
  rw [e]
  have e16 : (2 : Nat) ^ 16 = 65536 := by decide
  omega
set_option maxHeartbeats 1600000 in
theorem s_l2Text (t p : Int) (w : World) (h1 : -1000001 ≤ t) (h2 : t ≤ 1000001) (h3 : 0 ≤ p) (h4 : p ≤ 16) :
    Calls Tryd.prog 44 #[dv t p] w fun e w' => e = .returned (.string (dyB t p)) ∧ Below w.heap.size w w' := by
  have HT := Lib.hid (fun w => s_l1Num t w (by omega) (by omega))
  have hl1 := numB_len (n := t) (by omega) (by omega)
  by_cases h0 : p = 0
  · have fin : Hid (dyB t p = strOfNums (numB t)) := Lib.hid (if_pos h0)
    have hz : (p == 0) = true := by simp [h0]
    rw [fin.out]
    clear h0
    go_enter Tryd.func44, Tryd.ntmps44
    go_wp2_with fail
    refine (HT.out _).mono ?_
    rintro e w1 ⟨rfl, q⟩
    have b1 : Below w.heap.size w w1 := Below.next (by go_grown) q.below
    go_wp2_with fail
    go_ret
    exact ⟨rfl, b1⟩
  · have fin : Hid (dyB t p = strOfNums (numB t) ++ ⟨#[47]⟩ ++ strOfNums (numB (2 ^ p.toNat))) := Lib.hid (if_neg h0)
    have hz : (p == 0) = false := by simp [h0]
    rw [fin.out]
    have hb := pw_bd h4
    have hw : wrap64 (2 ^ p.toNat) = 2 ^ p.toNat := IntWalk.wrap64_in _ ⟨by omega, by omega⟩
    have HB := Lib.hid (fun w => s_l1Num (2 ^ p.toNat) w (by omega) (by omega))
    have hl2 := numB_len (n := 2 ^ p.toNat) (by omega) (by omega)
    have hpu : IntKind.u64.wrap p = p := IntWalk.u64_in _ (by omega)
    obtain ⟨P, hP⟩ : ∃ P, P = (2 : Int) ^ p.toNat := ⟨_, rfl⟩
    rw [← hP] at HB hl2 hb
    have hw1 : wrap64 (2 ^ p.toNat) = P := by rw [hw, hP]
    have fin2 : Hid (strOfNums (numB t) ++ ⟨#[47]⟩ ++ strOfNums (numB (2 ^ p.toNat)) = strOfNums (numB t) ++ ⟨#[47]⟩ ++ strOfNums (numB P)) := Lib.hid (by rw [hP])
    rw [fin2.out]
    clear hP hw fin fin2
    have HTq := Lib.hid (fun (m : Nat) (w : World) => Q.quiet (n := m) (HT.out (w.drewN m)))
    have HBq := Lib.hid (fun (m : Nat) (w : World) => Q.quiet (n := m) (HB.out (w.drewN m)))
    have ha1 := fun (w : World) => run_string_add_sum (P := Tryd.prog) w (strOfNums (numB t)) ⟨#[47]⟩ (by rw [strOfNums_size]; show _ + 1 ≤ _; omega)
    have ha2 := fun (w : World) => run_string_add_sum (P := Tryd.prog) w (strOfNums (numB t) ++ ⟨#[47]⟩) (strOfNums (numB P)) (by rw [ByteArray.size_append, strOfNums_size, strOfNums_size]; show _ + 1 + _ ≤ _; omega)
    generalize strOfNums (numB t) = A at *
    generalize strOfNums (numB P) = B at *
    clear h0 hl1 hl2 HT HB
    go_enter Tryd.func44, Tryd.ntmps44
    go_wp2_with fail
    go_quiet ((go_at_call 52; first | ((conv in (Value.int IntKind.i64 P) => skip); exact HBq.out _ _) | exact HTq.out _ _))
    go_wp2_with fail
    go_ret
    exact ⟨rfl, Below.next (by go_grown : Below w.heap.size w (w.alloc _)) (Q.below ⟨_, rfl⟩)⟩
def dyT (t p : Int) : ByteArray × Bool := if gd t p then (dyB t p, true) else (ByteArray.empty, false)
set_option maxHeartbeats 800000 in
theorem s_DyadicText (t p : Int) (w : World) :
    Calls Tryd.prog 18 #[dv t p] w fun e w' => e = .returned (tv (dyT t p)) ∧ Below w.heap.size w w' := by
  have HG := fun w => s_l2Good t p w
  cases hg : gd t p
  · have fin : Hid (dyT t p = (ByteArray.empty, false)) := Lib.hid (by unfold dyT; rw [hg]; rfl)
    rw [hg] at HG
    have HG := Lib.hid HG
    clear hg
    go_enter Tryd.func18, Tryd.ntmps18
    go_wp2_with fail
    refine (HG.out _).mono ?_
    rintro e w1 ⟨rfl, b⟩
    have b1 : Below w.heap.size w w1 := Below.next (by go_grown) b
    have hk := bkeep b
    go_wp2_with fail
    go_ret2
    exact ⟨ret_tv fin.out, b1⟩
  · have fin : Hid (dyT t p = (dyB t p, true)) := Lib.hid (by unfold dyT; rw [hg]; rfl)
    have hr := gd_rng hg
    rw [hg] at HG
    have HG := Lib.hid HG
    have HT := Lib.hid (fun w => s_l2Text t p w (by omega) (by omega) (by omega) (by omega))
    generalize dyB t p = Z at *
    clear hg hr
    go_enter Tryd.func18, Tryd.ntmps18
    go_wp2_with fail
    refine (HG.out _).mono ?_
    rintro e w1 ⟨rfl, b⟩
    have b1 : Below w.heap.size w w1 := Below.next (by go_grown) b
    have hk := bkeep b
    have k0 : w1.cell? ⟨w.heap.size, 0, none⟩ = some (.int .i64 t) := hk _ _ (by simp [go_sem])
    have k1 : w1.cell? ⟨w.heap.size, 1, none⟩ = some (.int .i64 p) := hk _ _ (by simp [go_sem])
    go_wp2_with fail
    refine (HT.out _).mono ?_
    rintro e w2 ⟨rfl, b⟩
    have b2 := Below.next b1 b
    go_wp2_with fail
    go_ret2
    exact ⟨ret_tv fin.out, b2⟩
set_option maxHeartbeats 1600000 in
theorem c_DyadicText (t p : Int) (w : World) (ht : Tab w) :
    Calls Tryd.prog 17 #[dv t p] w fun e w' => e = .returned (tv (dyT t p)) ∧ Below w.heap.size w w' := by
  have HG := fun w => c_GoodDyadic t p w
  cases hg : gd t p
  · have fin : Hid (dyT t p = (ByteArray.empty, false)) := Lib.hid (by unfold dyT; rw [hg]; rfl)
    rw [hg] at HG
    have HG := Lib.hid HG
    clear hg
    go_enter Tryd.func17, Tryd.ntmps17
    go_wp2_with fail
    refine (HG.out _).mono ?_
    rintro e w1 ⟨rfl, b⟩
    have b1 : Below w.heap.size w w1 := Below.next (by go_grown) b
    go_wp2_with fail
    go_ret2
    exact ⟨ret_tv fin.out, b1⟩
  · have fin : Hid (dyT t p = (dyB t p, true)) := Lib.hid (by unfold dyT; rw [hg]; rfl)
    have hr := gd_rng hg
    rw [hg] at HG
    have HG := Lib.hid HG
    have HT := Lib.hid (fun w h => c_Itoa t w h (by omega) (by omega))
    have hb := pw_bd hr.2.2.2
    have hw : wrap64 (2 ^ p.toNat) = 2 ^ p.toNat := IntWalk.wrap64_in _ ⟨by omega, by omega⟩
    have hl1 := numB_len (n := t) (by omega) (by omega)
    have hl2 := numB_len (n := 2 ^ p.toNat) (by omega) (by omega)
    have HB := Lib.hid (fun w h => c_Itoa (2 ^ p.toNat) w h (by omega) (by omega))
    have fin0 : Hid (p = 0 → dyT t p = (strOfNums (numB t), true)) := Lib.hid (fun h => by rw [fin.out, dyB, if_pos h])
    have fin1 : Hid (¬ p = 0 → dyT t p = (strOfNums (numB t) ++ (⟨#[47]⟩ ++ strOfNums (numB (2 ^ p.toNat))), true)) := Lib.hid (fun h => by rw [fin.out, dyB, if_neg h, ByteArray.append_assoc])
    have hp0 := hr.2.2.1
    have hp16 := hr.2.2.2
    clear hg hr fin
    obtain ⟨P, hP⟩ : ∃ P, P = (2 : Int) ^ p.toNat := ⟨_, rfl⟩
    have hw1 : wrap64 (2 ^ p.toNat) = P := by rw [hw, hP]
    have hw2 : wrap64 (2 ^ min p.toNat 64) = P := by rw [Nat.min_eq_left (by omega), hw1]
    rw [← hP] at HB hl2 hb fin1
    have ha1 := fun (w : World) => run_string_add_sum (P := Tryd.prog) w ⟨#[47]⟩ (strOfNums (numB P)) (by rw [strOfNums_size]; show 1 + _ ≤ _; omega)
    have ha2 := fun (w : World) => run_string_add_sum (P := Tryd.prog) w (strOfNums (numB t)) (⟨#[47]⟩ ++ strOfNums (numB P)) (by rw [ByteArray.size_append, strOfNums_size, strOfNums_size]; show _ + (1 + _) ≤ _; omega)
    clear hP hw hl1 hl2
    generalize strOfNums (numB t) = A at *
    generalize strOfNums (numB P) = B at *
    by_cases h0 : p = 0
    · have f := Lib.hid (fin0.out h0)
      have hz : ¬ (0 : Int) < p := by omega
      clear fin0 fin1 h0
      go_enter Tryd.func17, Tryd.ntmps17
      go_wp2_with fail
      refine (HG.out _).mono ?_
      rintro e w1 ⟨rfl, b⟩
      have b1 : Below w.heap.size w w1 := Below.next (by go_grown) b
      have hk := bkeep b
      have k0 : w1.cell? ⟨w.heap.size, 0, none⟩ = some (.int .i64 t) := hk _ _ (by simp [go_sem])
      have k1 : w1.cell? ⟨w.heap.size, 1, none⟩ = some (.int .i64 p) := hk _ _ (by simp [go_sem])
      have ht1 := ht.below b1
      clear hk
      go_wp2_with fail
      refine (HT.out _ ht1).mono ?_
      rintro e w2 ⟨rfl, b⟩
      have hk := bkeep b
      have q1 := hk _ _ k1
      have b2 := Below.next b1 b
      clear hk k0 k1
      go_wp2_with fail
      go_ret2
      exact ⟨ret_tv f.out, b2⟩
    · have f := Lib.hid (fin1.out h0)
      have hz : (0 : Int) < p := by omega
      clear fin0 fin1
      go_enter Tryd.func17, Tryd.ntmps17
      go_wp2_with fail
      refine (HG.out _).mono ?_
      rintro e w1 ⟨rfl, b⟩
      have b1 : Below w.heap.size w w1 := Below.next (by go_grown) b
      have hk := bkeep b
      have k0 : w1.cell? ⟨w.heap.size, 0, none⟩ = some (.int .i64 t) := hk _ _ (by simp [go_sem])
      have k1 : w1.cell? ⟨w.heap.size, 1, none⟩ = some (.int .i64 p) := hk _ _ (by simp [go_sem])
      have ht1 := ht.below b1
      clear h0 hk
      go_wp2_with fail
      refine (HT.out _ ht1).mono ?_
      rintro e w2 ⟨rfl, b⟩
      have hk := bkeep b
      have q1 := hk _ _ k1
      have b2 := Below.next b1 b
      have ht2 := ht.below b2
      clear hk k0 k1
      go_wp2_with fail
      refine (HB.out _ ht2).mono ?_
      rintro e w3 ⟨rfl, b⟩
      have b3 := Below.next b2 b
      go_wp2_with fail
      go_ret2
      exact ⟨ret_tv f.out, b3⟩
end Go.Proofs.YtaifelcocnnkjaaDoor
