/- The simplest number between two: the search, by the reference. -/
import Derived.Test.YtbfabnpcahinfaaDyK
namespace Go.Proofs.Ytbfabnpcahinfaa
open Go.RowKit

def l2S (A B : Int) : Nat → Int × Int
  | 0 => (0, 17)
  | f + 1 => if (A / 2 ^ f + 1) * 2 ^ f < B then ((red (A / 2 ^ f + 1) (16 - f)).1, ((red (A / 2 ^ f + 1) (16 - f)).2 : Int)) else l2S A B f
def l2B (A B : Int) : Int × Int := if (A / 65536 + 1) * 65536 < B then (A / 65536 + 1, 0) else l2S A B 16
theorem ifV_l2S (A B : Int) : ∀ f, ifV (l2S A B f).1 (l2S A B f).2 = btF A B f
  | 0 => by
    have : gd 0 17 = false := by decide
    simp [l2S, btF, ifV, this]
  | f + 1 => by
    unfold l2S btF
    split
    · rfl
    · exact ifV_l2S A B f
theorem ifV_l2B (A B : Int) : ifV (l2B A B).1 (l2B A B).2 = btF A B 17 := by
  unfold l2B
  by_cases h : (A / 65536 + 1) * 65536 < B
  · rw [if_pos h, btF_hit (f := 16) (U := 65536) (by decide) h, lowV, red_zero]
    rfl
  · rw [if_neg h, btF_miss (f := 16) (U := 65536) (by decide) h, ifV_l2S]
theorem l2S_hit {A B : Int} {f : Nat} (h : (A / 2 ^ f + 1) * 2 ^ f < B) : l2S A B (f + 1) = ((red (A / 2 ^ f + 1) (16 - f)).1, ((red (A / 2 ^ f + 1) (16 - f)).2 : Int)) := if_pos h
theorem l2S_miss {A B : Int} {f : Nat} (h : ¬ (A / 2 ^ f + 1) * 2 ^ f < B) : l2S A B (f + 1) = l2S A B f := if_neg h
theorem ret_dvm {m m' : Int × Int} (h : m = m') : Ending.returned (dv m.1 m.2) = .returned (dv m'.1 m'.2) := by rw [h]
set_option maxRecDepth 100000 in
set_option maxHeartbeats 8000000 in
theorem s_l2B_pos (t p u q : Int) (w : World) (hg : gd t p = true) (hg2 : gd u q = true) (ht : 0 ≤ t) (hlt : sc 16 t p < sc 16 u q) :
    Calls Try.prog 54 #[dv t p, dv u q] w fun e w' => e = .returned (dv (l2B (sc 16 t p) (sc 16 u q)).1 (l2B (sc 16 t p) (sc 16 u q)).2) ∧ Below w.heap.size w w' := by
  have hA0 : 0 ≤ sc 16 t p := by
    rcases Int.lt_or_le (sc 16 t p) 0 with h | h
    · have := sc_lt.1 h; omega
    · exact h
  have hBb := (sc16_bd hg2).2
  have hAb := (sc16_bd hg).2
  have hu0 : 0 < u := by
    have : 0 < sc 16 u q := by omega
    exact sc_pos.1 this
  obtain ⟨g1, g2, g3, g4⟩ := gd_rng hg
  obtain ⟨k1, k2, k3, k4⟩ := gd_rng hg2
  have eA : sc 24 t p = 256 * sc 16 t p := by rw [sc_up (n := 16) (m := 24) (by omega) (by omega), Int.mul_comm]; rfl
  have eB : sc 24 u q = 256 * sc 16 u q := by rw [sc_up (n := 16) (m := 24) (by omega) (by omega), Int.mul_comm]; rfl
  have e0 : sc 24 0 0 = 0 := by simp [sc]
  have HSA := Lib.hid (fun w => s_l2Scaled t p w (by omega) (by omega) g3 g4)
  have HSB := Lib.hid (fun w => s_l2Scaled u q w (by omega) (by omega) k3 k4)
  have HF := Lib.hid (fun w => s_l2Floor t p w (by omega) (by omega) g3 g4)
  have HL1 := Lib.hid (fun w => s_l2Less u q 0 0 w (by omega) (by omega) k3 k4 (by decide) (by decide) (by decide) (by decide))
  have HL2 := Lib.hid (fun w => s_l2Less t p 0 0 w (by omega) (by omega) g3 g4 (by decide) (by decide) (by decide) (by decide))
  have HL3 := Lib.hid (fun (K : Int) w h1 h2 => s_l2Less K 0 u q w h1 h2 (by decide) (by decide) (by omega) (by omega) k3 k4)
  have e3 : ∀ K : Int, sc 24 K 0 = 16777216 * K := fun K => by simp [sc]; omega
  rw [eA] at HSA HF HL2
  rw [eB] at HSB HL1
  simp only [eB, e3] at HL3
  rw [e0] at HL1 HL2
  generalize sc 16 t p = A at *
  generalize sc 16 u q = B at *
  rw [show decide (256 * B < 0) = false from by rw [decide_eq_false_iff_not]; omega] at HL1
  rw [show decide (256 * A < 0) = false from by rw [decide_eq_false_iff_not]; omega] at HL2
  rw [show 256 * A / 16777216 = A / 65536 from by omega] at HF
  clear eA eB e0 e3 hg hg2
  have hu1 : (u == 0) = false := by simp; omega
  have HAB := Lib.hid hlt
  obtain ⟨R, HR⟩ : ∃ R, Hid (l2B A B = R) := ⟨_, Lib.hid rfl⟩
  rw [HR.out]
  obtain ⟨N, HN⟩ : ∃ N, Hid (A / 65536 + 1 = N) := ⟨_, Lib.hid rfl⟩
  have HNQ : Hid (A / 65536 = N - 1) := Lib.hid (by have := HN.out; omega)
  rw [HNQ.out] at HF
  have hN1 : 1 ≤ N := by have := HN.out; omega
  have hN2 : N ≤ 1000001 := by have := HN.out; omega
  have HL4 := Lib.hid (fun w => HL3.out N w (by omega) hN2)
  clear HL3
  go_enter Try.func54, Try.ntmps54
  go_wp2_with fail
  refine (HL1.out _).mono ?_
  rintro e w1 ⟨rfl, b1⟩
  have d0 : w1.cell? ⟨w.heap.size, 0, none⟩ = some (.int .i64 t) := bkeep b1 _ _ (by simp [go_sem])
  have d1 : w1.cell? ⟨w.heap.size, 1, none⟩ = some (.int .i64 p) := bkeep b1 _ _ (by simp [go_sem])
  have d2 : w1.cell? ⟨w.heap.size + 1, 0, none⟩ = some (.int .i64 u) := bkeep b1 _ _ (by simp [go_sem])
  have d3 : w1.cell? ⟨w.heap.size + 1, 1, none⟩ = some (.int .i64 q) := bkeep b1 _ _ (by simp [go_sem])
  have d4 : w1.cell? ⟨w.heap.size + 2, 0, none⟩ = some (.int .i64 0) := bkeep b1 _ _ (by simp [go_sem])
  have d5 : w1.cell? ⟨w.heap.size + 2, 1, none⟩ = some (.int .i64 0) := bkeep b1 _ _ (by simp [go_sem])
  have f1 : ∀ o, w1.frozen? ⟨w.heap.size + 2, o, none⟩ = false := fun o => ((bcell b1).2 _ _ (by simp)).trans (by simp [go_sem])
  have BB := Lib.hid (Below.next (by go_grown) b1 : Below w.heap.size w w1)
  have D0 := Lib.hid d0
  have D1 := Lib.hid d1
  have D2 := Lib.hid d2
  have D3 := Lib.hid d3
  have D4 := Lib.hid d4
  have D5 := Lib.hid d5
  have F1 := Lib.hid f1
  clear b1 d4 d5 f1
  go_wp2_with fail
  refine (HL2.out _).mono ?_
  rintro e w2 ⟨rfl, b2⟩
  have d0 := bkeep b2 _ _ D0.out
  have d1 := bkeep b2 _ _ D1.out
  have B2 := Lib.hid b2
  clear d2 d3 b2
  go_wp2_with fail
  refine (HF.out _).mono ?_
  rintro e w3 ⟨rfl, b3⟩
  have B3 := Lib.hid (Below.next B2.out b3)
  have d2 := bkeep B3.out _ _ D2.out
  have d3 := bkeep B3.out _ _ D3.out
  have lz : w.heap.size + 2 < w3.heap.size := cell_lt (bkeep B3.out _ _ D4.out)
  have l1 : ¬ w3.heap.size = w.heap.size := by omega
  have l2 : ¬ w.heap.size = w3.heap.size := by omega
  have l3 : ¬ w3.heap.size = w.heap.size + 1 := by omega
  have l4 : ¬ w.heap.size + 1 = w3.heap.size := by omega
  have l5 : w.heap.size + 1 < w3.heap.size := by omega
  have W4 := Lib.hid (B3.out.alloc B3.out.size (.cells #[.int .i64 N, .int .i64 0] 26))
  have c0 : (w3.alloc (.cells #[.int .i64 N, .int .i64 0] 26)).cell? ⟨w.heap.size + 1, 0, none⟩ = some (.int .i64 u) := alloc_keep _ d2
  have c1 : (w3.alloc (.cells #[.int .i64 N, .int .i64 0] 26)).cell? ⟨w.heap.size + 1, 1, none⟩ = some (.int .i64 q) := alloc_keep _ d3
  clear d0 d1 b3 d2 d3
  go_wp2_with fail
  by_cases hh : N * 65536 < B
  · have fin : Hid (R = (N, 0)) := Lib.hid (by rw [← HR.out, l2B, if_pos (by rw [HN.out]; exact hh), HN.out])
    have HL5 := Lib.hid (HL4.out (w3.alloc (.cells #[.int .i64 N, .int .i64 0] 26)))
    rw [show decide (16777216 * N < 256 * B) = true from by rw [decide_eq_true_iff]; omega] at HL5
    refine HL5.out.mono ?_
    rintro e w5 ⟨rfl, b5⟩
    have B5 := Lib.hid (Below.next W4.out b5)
    have e0 : w5.cell? ⟨w3.heap.size, 0, none⟩ = some (.int .i64 N) := bkeep b5 _ _ (by simp [go_sem])
    have e1 : w5.cell? ⟨w3.heap.size, 1, none⟩ = some (.int .i64 0) := bkeep b5 _ _ (by simp [go_sem])
    have x0 := bkeep B5.out _ _ D4.out
    have x1 := bkeep B5.out _ _ D5.out
    have y0 : ∀ o, w5.frozen? ⟨w.heap.size + 2, o, none⟩ = false := fun o => ((bcell B5.out).2 _ _ (cell_lt D4.out)).trans (F1.out o)
    have B6 := Lib.hid (Below.next BB.out B5.out)
    clear b5 c0 c1
    go_wp2_with fail
    exact bodyPost_ret (res_dv _ _ rfl rfl (two_set x0 x1).1 (two_set x0 x1).2) rfl ⟨ret_dvm (m := (N, 0)) fin.out.symm, (B6.out.setCell (by simp; omega) _).setCell (by simp; omega) _⟩
  · have Rem : Hid (l2S A B 16 = R) := Lib.hid (by rw [← HR.out, l2B, if_neg (by rw [HN.out]; exact hh)])
    have HL5 := Lib.hid (HL4.out (w3.alloc (.cells #[.int .i64 N, .int .i64 0] 26)))
    rw [show decide (16777216 * N < 256 * B) = false from by rw [decide_eq_false_iff_not]; omega] at HL5
    refine HL5.out.mono ?_
    rintro e w5 ⟨rfl, b5⟩
    have B5 := Lib.hid (Below.next W4.out b5)
    clear b5 c0 c1 hh HL4 HL5 HF HL1 HL2 HN HNQ HR hN1 hN2 l1 l2 l3 l4 l5
    go_wp2_with fail
    go_loopg [6] 16 (fun m i wr => ∃ (n : Nat), 1 ≤ n ∧ n ≤ 17 ∧ m = 17 - n ∧ i = .int .i64 n ∧ Hid (l2S A B (17 - n) = R) ∧ Below w1.heap.size w1 wr)
    case atStart => exact ⟨1, by omega, by omega, rfl, rfl, Rem, B5.out⟩
    case round =>
      obtain ⟨n, hn1, hn, rfl, rfl, hrem, hb⟩ := hrel
      have Hb := Lib.hid hb
      have d0 := bkeep hb _ _ D0.out
      have d1 := bkeep hb _ _ D1.out
      clear hb
      by_cases hn16 : n ≤ 16
      · obtain ⟨K, hK⟩ : ∃ K, Hid (A / 2 ^ (16 - n) + 1 = K) := ⟨_, Lib.hid rfl⟩
        obtain ⟨hit, hh⟩ : ∃ hit, Hid (decide (K * 2 ^ (16 - n) < B) = hit) := ⟨_, Lib.hid rfl⟩
        have hKb : Hid (1 ≤ K ∧ K ≤ 65536065537) := Lib.hid (by
          have hp : (0 : Int) < 2 ^ (16 - n) := pow_pos _
          have h1 : 0 ≤ A / 2 ^ (16 - n) := Int.ediv_nonneg hA0 (by omega)
          have h2 : A / 2 ^ (16 - n) ≤ A := Int.ediv_le_self _ hA0
          rw [← hK.out]; omega)
        have Hcases : Hid (n = 1 ∨ n = 2 ∨ n = 3 ∨ n = 4 ∨ n = 5 ∨ n = 6 ∨ n = 7 ∨ n = 8 ∨ n = 9 ∨ n = 10 ∨ n = 11 ∨ n = 12 ∨ n = 13 ∨ n = 14 ∨ n = 15 ∨ n = 16) := Lib.hid (by omega)
        go_upto_region 11 with fail
        go_cut [7] (fun v7 wx => v7 = .int .i64 K ∧ Below w1.heap.size w1 wx)
        case first =>
          rcases Hcases.out with rfl | rfl | rfl | rfl | rfl | rfl | rfl | rfl | rfl | rfl | rfl | rfl | rfl | rfl | rfl | rfl
          · have eK : Hid (256 * A / 8388608 + 1 = K) := Lib.hid (by rw [← hK.out, show (2 : Int) ^ (16 - 1) = 32768 from by decide]; omega)
            have eQ : 256 * A / 8388608 = K - 1 := by have := eK.out; omega
            have hKb2 := hKb.out
            go_wp2_with fail
            refine (HSA.out _).mono ?_
            rintro e w8 ⟨rfl, b8⟩
            have B8 := Lib.hid (Below.next Hb.out b8)
            clear b8 d0 d1
            go_wp2_with fail
            go_meet
            case rel => exact ⟨by have e := eK.out; simp only [Value.int.injEq, true_and] <;> omega, B8.out⟩
          · have eK : Hid (256 * A / 4194304 + 1 = K) := Lib.hid (by rw [← hK.out, show (2 : Int) ^ (16 - 2) = 16384 from by decide]; omega)
            have eQ : 256 * A / 4194304 = K - 1 := by have := eK.out; omega
            have hKb2 := hKb.out
            go_wp2_with fail
            refine (HSA.out _).mono ?_
            rintro e w8 ⟨rfl, b8⟩
            have B8 := Lib.hid (Below.next Hb.out b8)
            clear b8 d0 d1
            go_wp2_with fail
            go_meet
            case rel => exact ⟨by have e := eK.out; simp only [Value.int.injEq, true_and] <;> omega, B8.out⟩
          · have eK : Hid (256 * A / 2097152 + 1 = K) := Lib.hid (by rw [← hK.out, show (2 : Int) ^ (16 - 3) = 8192 from by decide]; omega)
            have eQ : 256 * A / 2097152 = K - 1 := by have := eK.out; omega
            have hKb2 := hKb.out
            go_wp2_with fail
            refine (HSA.out _).mono ?_
            rintro e w8 ⟨rfl, b8⟩
            have B8 := Lib.hid (Below.next Hb.out b8)
            clear b8 d0 d1
            go_wp2_with fail
            go_meet
            case rel => exact ⟨by have e := eK.out; simp only [Value.int.injEq, true_and] <;> omega, B8.out⟩
          · have eK : Hid (256 * A / 1048576 + 1 = K) := Lib.hid (by rw [← hK.out, show (2 : Int) ^ (16 - 4) = 4096 from by decide]; omega)
            have eQ : 256 * A / 1048576 = K - 1 := by have := eK.out; omega
            have hKb2 := hKb.out
            go_wp2_with fail
            refine (HSA.out _).mono ?_
            rintro e w8 ⟨rfl, b8⟩
            have B8 := Lib.hid (Below.next Hb.out b8)
            clear b8 d0 d1
            go_wp2_with fail
            go_meet
            case rel => exact ⟨by have e := eK.out; simp only [Value.int.injEq, true_and] <;> omega, B8.out⟩
          · have eK : Hid (256 * A / 524288 + 1 = K) := Lib.hid (by rw [← hK.out, show (2 : Int) ^ (16 - 5) = 2048 from by decide]; omega)
            have eQ : 256 * A / 524288 = K - 1 := by have := eK.out; omega
            have hKb2 := hKb.out
            go_wp2_with fail
            refine (HSA.out _).mono ?_
            rintro e w8 ⟨rfl, b8⟩
            have B8 := Lib.hid (Below.next Hb.out b8)
            clear b8 d0 d1
            go_wp2_with fail
            go_meet
            case rel => exact ⟨by have e := eK.out; simp only [Value.int.injEq, true_and] <;> omega, B8.out⟩
          · have eK : Hid (256 * A / 262144 + 1 = K) := Lib.hid (by rw [← hK.out, show (2 : Int) ^ (16 - 6) = 1024 from by decide]; omega)
            have eQ : 256 * A / 262144 = K - 1 := by have := eK.out; omega
            have hKb2 := hKb.out
            go_wp2_with fail
            refine (HSA.out _).mono ?_
            rintro e w8 ⟨rfl, b8⟩
            have B8 := Lib.hid (Below.next Hb.out b8)
            clear b8 d0 d1
            go_wp2_with fail
            go_meet
            case rel => exact ⟨by have e := eK.out; simp only [Value.int.injEq, true_and] <;> omega, B8.out⟩
          · have eK : Hid (256 * A / 131072 + 1 = K) := Lib.hid (by rw [← hK.out, show (2 : Int) ^ (16 - 7) = 512 from by decide]; omega)
            have eQ : 256 * A / 131072 = K - 1 := by have := eK.out; omega
            have hKb2 := hKb.out
            go_wp2_with fail
            refine (HSA.out _).mono ?_
            rintro e w8 ⟨rfl, b8⟩
            have B8 := Lib.hid (Below.next Hb.out b8)
            clear b8 d0 d1
            go_wp2_with fail
            go_meet
            case rel => exact ⟨by have e := eK.out; simp only [Value.int.injEq, true_and] <;> omega, B8.out⟩
          · have eK : Hid (256 * A / 65536 + 1 = K) := Lib.hid (by rw [← hK.out, show (2 : Int) ^ (16 - 8) = 256 from by decide]; omega)
            have eQ : 256 * A / 65536 = K - 1 := by have := eK.out; omega
            have hKb2 := hKb.out
            go_wp2_with fail
            refine (HSA.out _).mono ?_
            rintro e w8 ⟨rfl, b8⟩
            have B8 := Lib.hid (Below.next Hb.out b8)
            clear b8 d0 d1
            go_wp2_with fail
            go_meet
            case rel => exact ⟨by have e := eK.out; simp only [Value.int.injEq, true_and] <;> omega, B8.out⟩
          · have eK : Hid (256 * A / 32768 + 1 = K) := Lib.hid (by rw [← hK.out, show (2 : Int) ^ (16 - 9) = 128 from by decide]; omega)
            have eQ : 256 * A / 32768 = K - 1 := by have := eK.out; omega
            have hKb2 := hKb.out
            go_wp2_with fail
            refine (HSA.out _).mono ?_
            rintro e w8 ⟨rfl, b8⟩
            have B8 := Lib.hid (Below.next Hb.out b8)
            clear b8 d0 d1
            go_wp2_with fail
            go_meet
            case rel => exact ⟨by have e := eK.out; simp only [Value.int.injEq, true_and] <;> omega, B8.out⟩
          · have eK : Hid (256 * A / 16384 + 1 = K) := Lib.hid (by rw [← hK.out, show (2 : Int) ^ (16 - 10) = 64 from by decide]; omega)
            have eQ : 256 * A / 16384 = K - 1 := by have := eK.out; omega
            have hKb2 := hKb.out
            go_wp2_with fail
            refine (HSA.out _).mono ?_
            rintro e w8 ⟨rfl, b8⟩
            have B8 := Lib.hid (Below.next Hb.out b8)
            clear b8 d0 d1
            go_wp2_with fail
            go_meet
            case rel => exact ⟨by have e := eK.out; simp only [Value.int.injEq, true_and] <;> omega, B8.out⟩
          · have eK : Hid (256 * A / 8192 + 1 = K) := Lib.hid (by rw [← hK.out, show (2 : Int) ^ (16 - 11) = 32 from by decide]; omega)
            have eQ : 256 * A / 8192 = K - 1 := by have := eK.out; omega
            have hKb2 := hKb.out
            go_wp2_with fail
            refine (HSA.out _).mono ?_
            rintro e w8 ⟨rfl, b8⟩
            have B8 := Lib.hid (Below.next Hb.out b8)
            clear b8 d0 d1
            go_wp2_with fail
            go_meet
            case rel => exact ⟨by have e := eK.out; simp only [Value.int.injEq, true_and] <;> omega, B8.out⟩
          · have eK : Hid (256 * A / 4096 + 1 = K) := Lib.hid (by rw [← hK.out, show (2 : Int) ^ (16 - 12) = 16 from by decide]; omega)
            have eQ : 256 * A / 4096 = K - 1 := by have := eK.out; omega
            have hKb2 := hKb.out
            go_wp2_with fail
            refine (HSA.out _).mono ?_
            rintro e w8 ⟨rfl, b8⟩
            have B8 := Lib.hid (Below.next Hb.out b8)
            clear b8 d0 d1
            go_wp2_with fail
            go_meet
            case rel => exact ⟨by have e := eK.out; simp only [Value.int.injEq, true_and] <;> omega, B8.out⟩
          · have eK : Hid (256 * A / 2048 + 1 = K) := Lib.hid (by rw [← hK.out, show (2 : Int) ^ (16 - 13) = 8 from by decide]; omega)
            have eQ : 256 * A / 2048 = K - 1 := by have := eK.out; omega
            have hKb2 := hKb.out
            go_wp2_with fail
            refine (HSA.out _).mono ?_
            rintro e w8 ⟨rfl, b8⟩
            have B8 := Lib.hid (Below.next Hb.out b8)
            clear b8 d0 d1
            go_wp2_with fail
            go_meet
            case rel => exact ⟨by have e := eK.out; simp only [Value.int.injEq, true_and] <;> omega, B8.out⟩
          · have eK : Hid (256 * A / 1024 + 1 = K) := Lib.hid (by rw [← hK.out, show (2 : Int) ^ (16 - 14) = 4 from by decide]; omega)
            have eQ : 256 * A / 1024 = K - 1 := by have := eK.out; omega
            have hKb2 := hKb.out
            go_wp2_with fail
            refine (HSA.out _).mono ?_
            rintro e w8 ⟨rfl, b8⟩
            have B8 := Lib.hid (Below.next Hb.out b8)
            clear b8 d0 d1
            go_wp2_with fail
            go_meet
            case rel => exact ⟨by have e := eK.out; simp only [Value.int.injEq, true_and] <;> omega, B8.out⟩
          · have eK : Hid (256 * A / 512 + 1 = K) := Lib.hid (by rw [← hK.out, show (2 : Int) ^ (16 - 15) = 2 from by decide]; omega)
            have eQ : 256 * A / 512 = K - 1 := by have := eK.out; omega
            have hKb2 := hKb.out
            go_wp2_with fail
            refine (HSA.out _).mono ?_
            rintro e w8 ⟨rfl, b8⟩
            have B8 := Lib.hid (Below.next Hb.out b8)
            clear b8 d0 d1
            go_wp2_with fail
            go_meet
            case rel => exact ⟨by have e := eK.out; simp only [Value.int.injEq, true_and] <;> omega, B8.out⟩
          · have eK : Hid (256 * A / 256 + 1 = K) := Lib.hid (by rw [← hK.out, show (2 : Int) ^ (16 - 16) = 1 from by decide]; omega)
            have eQ : 256 * A / 256 = K - 1 := by have := eK.out; omega
            have hKb2 := hKb.out
            go_wp2_with fail
            refine (HSA.out _).mono ?_
            rintro e w8 ⟨rfl, b8⟩
            have B8 := Lib.hid (Below.next Hb.out b8)
            clear b8 d0 d1
            go_wp2_with fail
            go_meet
            case rel => exact ⟨by have e := eK.out; simp only [Value.int.injEq, true_and] <;> omega, B8.out⟩
        case rest =>
        obtain ⟨rfl, hb⟩ := hcut
        have Hb := Lib.hid hb
        have d2 := bkeep hb _ _ D2.out
        have d3 := bkeep hb _ _ D3.out
        clear hb d0 d1
        go_upto_region 12 with fail
        go_cut [52] (fun v52 wx => v52 = .bool hit ∧ Below w1.heap.size w1 wx)
        case first =>
          obtain ⟨K0, K1⟩ := hKb.out
          rcases Hcases.out with rfl | rfl | rfl | rfl | rfl | rfl | rfl | rfl | rfl | rfl | rfl | rfl | rfl | rfl | rfl | rfl
          · have eh : Hid (decide (K * 8388608 < 256 * B) = hit) := Lib.hid (by rw [← hh.out, show (2 : Int) ^ (16 - 1) = 32768 from by decide]; exact decide_eq_decide.2 ⟨fun h => by omega, fun h => by omega⟩)
            go_wp2_with fail
            refine (HSB.out _).mono ?_
            rintro e w8 ⟨rfl, b8⟩
            have B8 := Lib.hid (Below.next Hb.out b8)
            clear b8 d2 d3
            go_wp2_with fail
            go_meet
            case rel => exact ⟨by rw [← eh.out], B8.out⟩
          · have eh : Hid (decide (K * 4194304 < 256 * B) = hit) := Lib.hid (by rw [← hh.out, show (2 : Int) ^ (16 - 2) = 16384 from by decide]; exact decide_eq_decide.2 ⟨fun h => by omega, fun h => by omega⟩)
            go_wp2_with fail
            refine (HSB.out _).mono ?_
            rintro e w8 ⟨rfl, b8⟩
            have B8 := Lib.hid (Below.next Hb.out b8)
            clear b8 d2 d3
            go_wp2_with fail
            go_meet
            case rel => exact ⟨by rw [← eh.out], B8.out⟩
          · have eh : Hid (decide (K * 2097152 < 256 * B) = hit) := Lib.hid (by rw [← hh.out, show (2 : Int) ^ (16 - 3) = 8192 from by decide]; exact decide_eq_decide.2 ⟨fun h => by omega, fun h => by omega⟩)
            go_wp2_with fail
            refine (HSB.out _).mono ?_
            rintro e w8 ⟨rfl, b8⟩
            have B8 := Lib.hid (Below.next Hb.out b8)
            clear b8 d2 d3
            go_wp2_with fail
            go_meet
            case rel => exact ⟨by rw [← eh.out], B8.out⟩
          · have eh : Hid (decide (K * 1048576 < 256 * B) = hit) := Lib.hid (by rw [← hh.out, show (2 : Int) ^ (16 - 4) = 4096 from by decide]; exact decide_eq_decide.2 ⟨fun h => by omega, fun h => by omega⟩)
            go_wp2_with fail
            refine (HSB.out _).mono ?_
            rintro e w8 ⟨rfl, b8⟩
            have B8 := Lib.hid (Below.next Hb.out b8)
            clear b8 d2 d3
            go_wp2_with fail
            go_meet
            case rel => exact ⟨by rw [← eh.out], B8.out⟩
          · have eh : Hid (decide (K * 524288 < 256 * B) = hit) := Lib.hid (by rw [← hh.out, show (2 : Int) ^ (16 - 5) = 2048 from by decide]; exact decide_eq_decide.2 ⟨fun h => by omega, fun h => by omega⟩)
            go_wp2_with fail
            refine (HSB.out _).mono ?_
            rintro e w8 ⟨rfl, b8⟩
            have B8 := Lib.hid (Below.next Hb.out b8)
            clear b8 d2 d3
            go_wp2_with fail
            go_meet
            case rel => exact ⟨by rw [← eh.out], B8.out⟩
          · have eh : Hid (decide (K * 262144 < 256 * B) = hit) := Lib.hid (by rw [← hh.out, show (2 : Int) ^ (16 - 6) = 1024 from by decide]; exact decide_eq_decide.2 ⟨fun h => by omega, fun h => by omega⟩)
            go_wp2_with fail
            refine (HSB.out _).mono ?_
            rintro e w8 ⟨rfl, b8⟩
            have B8 := Lib.hid (Below.next Hb.out b8)
            clear b8 d2 d3
            go_wp2_with fail
            go_meet
            case rel => exact ⟨by rw [← eh.out], B8.out⟩
          · have eh : Hid (decide (K * 131072 < 256 * B) = hit) := Lib.hid (by rw [← hh.out, show (2 : Int) ^ (16 - 7) = 512 from by decide]; exact decide_eq_decide.2 ⟨fun h => by omega, fun h => by omega⟩)
            go_wp2_with fail
            refine (HSB.out _).mono ?_
            rintro e w8 ⟨rfl, b8⟩
            have B8 := Lib.hid (Below.next Hb.out b8)
            clear b8 d2 d3
            go_wp2_with fail
            go_meet
            case rel => exact ⟨by rw [← eh.out], B8.out⟩
          · have eh : Hid (decide (K * 65536 < 256 * B) = hit) := Lib.hid (by rw [← hh.out, show (2 : Int) ^ (16 - 8) = 256 from by decide]; exact decide_eq_decide.2 ⟨fun h => by omega, fun h => by omega⟩)
            go_wp2_with fail
            refine (HSB.out _).mono ?_
            rintro e w8 ⟨rfl, b8⟩
            have B8 := Lib.hid (Below.next Hb.out b8)
            clear b8 d2 d3
            go_wp2_with fail
            go_meet
            case rel => exact ⟨by rw [← eh.out], B8.out⟩
          · have eh : Hid (decide (K * 32768 < 256 * B) = hit) := Lib.hid (by rw [← hh.out, show (2 : Int) ^ (16 - 9) = 128 from by decide]; exact decide_eq_decide.2 ⟨fun h => by omega, fun h => by omega⟩)
            go_wp2_with fail
            refine (HSB.out _).mono ?_
            rintro e w8 ⟨rfl, b8⟩
            have B8 := Lib.hid (Below.next Hb.out b8)
            clear b8 d2 d3
            go_wp2_with fail
            go_meet
            case rel => exact ⟨by rw [← eh.out], B8.out⟩
          · have eh : Hid (decide (K * 16384 < 256 * B) = hit) := Lib.hid (by rw [← hh.out, show (2 : Int) ^ (16 - 10) = 64 from by decide]; exact decide_eq_decide.2 ⟨fun h => by omega, fun h => by omega⟩)
            go_wp2_with fail
            refine (HSB.out _).mono ?_
            rintro e w8 ⟨rfl, b8⟩
            have B8 := Lib.hid (Below.next Hb.out b8)
            clear b8 d2 d3
            go_wp2_with fail
            go_meet
            case rel => exact ⟨by rw [← eh.out], B8.out⟩
          · have eh : Hid (decide (K * 8192 < 256 * B) = hit) := Lib.hid (by rw [← hh.out, show (2 : Int) ^ (16 - 11) = 32 from by decide]; exact decide_eq_decide.2 ⟨fun h => by omega, fun h => by omega⟩)
            go_wp2_with fail
            refine (HSB.out _).mono ?_
            rintro e w8 ⟨rfl, b8⟩
            have B8 := Lib.hid (Below.next Hb.out b8)
            clear b8 d2 d3
            go_wp2_with fail
            go_meet
            case rel => exact ⟨by rw [← eh.out], B8.out⟩
          · have eh : Hid (decide (K * 4096 < 256 * B) = hit) := Lib.hid (by rw [← hh.out, show (2 : Int) ^ (16 - 12) = 16 from by decide]; exact decide_eq_decide.2 ⟨fun h => by omega, fun h => by omega⟩)
            go_wp2_with fail
            refine (HSB.out _).mono ?_
            rintro e w8 ⟨rfl, b8⟩
            have B8 := Lib.hid (Below.next Hb.out b8)
            clear b8 d2 d3
            go_wp2_with fail
            go_meet
            case rel => exact ⟨by rw [← eh.out], B8.out⟩
          · have eh : Hid (decide (K * 2048 < 256 * B) = hit) := Lib.hid (by rw [← hh.out, show (2 : Int) ^ (16 - 13) = 8 from by decide]; exact decide_eq_decide.2 ⟨fun h => by omega, fun h => by omega⟩)
            go_wp2_with fail
            refine (HSB.out _).mono ?_
            rintro e w8 ⟨rfl, b8⟩
            have B8 := Lib.hid (Below.next Hb.out b8)
            clear b8 d2 d3
            go_wp2_with fail
            go_meet
            case rel => exact ⟨by rw [← eh.out], B8.out⟩
          · have eh : Hid (decide (K * 1024 < 256 * B) = hit) := Lib.hid (by rw [← hh.out, show (2 : Int) ^ (16 - 14) = 4 from by decide]; exact decide_eq_decide.2 ⟨fun h => by omega, fun h => by omega⟩)
            go_wp2_with fail
            refine (HSB.out _).mono ?_
            rintro e w8 ⟨rfl, b8⟩
            have B8 := Lib.hid (Below.next Hb.out b8)
            clear b8 d2 d3
            go_wp2_with fail
            go_meet
            case rel => exact ⟨by rw [← eh.out], B8.out⟩
          · have eh : Hid (decide (K * 512 < 256 * B) = hit) := Lib.hid (by rw [← hh.out, show (2 : Int) ^ (16 - 15) = 2 from by decide]; exact decide_eq_decide.2 ⟨fun h => by omega, fun h => by omega⟩)
            go_wp2_with fail
            refine (HSB.out _).mono ?_
            rintro e w8 ⟨rfl, b8⟩
            have B8 := Lib.hid (Below.next Hb.out b8)
            clear b8 d2 d3
            go_wp2_with fail
            go_meet
            case rel => exact ⟨by rw [← eh.out], B8.out⟩
          · have eh : Hid (decide (K * 256 < 256 * B) = hit) := Lib.hid (by rw [← hh.out, show (2 : Int) ^ (16 - 16) = 1 from by decide]; exact decide_eq_decide.2 ⟨fun h => by omega, fun h => by omega⟩)
            go_wp2_with fail
            refine (HSB.out _).mono ?_
            rintro e w8 ⟨rfl, b8⟩
            have B8 := Lib.hid (Below.next Hb.out b8)
            clear b8 d2 d3
            go_wp2_with fail
            go_meet
            case rel => exact ⟨by rw [← eh.out], B8.out⟩
        case rest =>
        obtain ⟨rfl, hb⟩ := hcut
        obtain ⟨K0, K1⟩ := hKb.out
        cases hit
        · have hrem' : Hid (l2S A B (17 - (n + 1)) = R) := Lib.hid (by
            rw [← hrem.out, show 17 - n = (16 - n) + 1 from by omega, l2S_miss (f := 16 - n) (by rw [hK.out]; exact of_decide_eq_false hh.out), show 17 - (n + 1) = 16 - n from by omega])
          have Hb2 := Lib.hid hb
          clear hb d2 d3
          go_wp2_with fail
          go_roundg (17 - (n + 1))
          case measure => omega
          case rel => exact ⟨n + 1, by omega, by omega, rfl, by go_num, hrem', Hb2.out⟩
        · have fin : Hid (((red K n).1, ((red K n).2 : Int)) = R) := Lib.hid (by
            rw [← hrem.out, show 17 - n = (16 - n) + 1 from by omega, l2S_hit (f := 16 - n) (by rw [hK.out]; exact of_decide_eq_true hh.out), hK.out, show 16 - (16 - n) = n from by omega])
          have HM := Lib.hid (fun w => s_l2Make K n w (by omega) (by omega) (by omega))
          obtain ⟨r1, hr1⟩ : ∃ r, Hid ((red K n).1 = r) := ⟨_, Lib.hid rfl⟩
          obtain ⟨r2, hr2⟩ : ∃ r, Hid (((red K n).2 : Int) = r) := ⟨_, Lib.hid rfl⟩
          rw [hr1.out, hr2.out] at HM fin
          have Hb2 := Lib.hid hb
          clear hb d2 d3
          go_wp2_with fail
          refine (HM.out _).mono ?_
          rintro e w7 ⟨rfl, b7⟩
          have B7 := Lib.hid (Below.next Hb2.out b7)
          have x0 := bkeep B7.out _ _ D4.out
          have x1 := bkeep B7.out _ _ D5.out
          have y0 : ∀ o, w7.frozen? ⟨w.heap.size + 2, o, none⟩ = false := fun o => ((bcell B7.out).2 _ _ (cell_lt D4.out)).trans (F1.out o)
          have B8 := Lib.hid (Below.next BB.out B7.out)
          clear b7
          go_wp2_with fail
          exact bodyPost_ret (res_dv _ _ rfl rfl (two_set x0 x1).1 (two_set x0 x1).2) rfl ⟨ret_dvm (m := (r1, r2)) fin.out, (B8.out.setCell (by simp; omega) _).setCell (by simp; omega) _⟩
      · obtain rfl : n = 17 := by omega
        have fin : Hid ((0, 17) = R) := Lib.hid (by rw [← hrem.out]; rfl)
        have x0 := bkeep Hb.out _ _ D4.out
        have x1 := bkeep Hb.out _ _ D5.out
        have y0 : ∀ o, wr.frozen? ⟨w.heap.size + 2, o, none⟩ = false := fun o => ((bcell Hb.out).2 _ _ (cell_lt D4.out)).trans (F1.out o)
        have B8 := Lib.hid (Below.next BB.out Hb.out)
        clear d0 d1
        go_wp2_with fail
        exact bodyPost_ret (res_dv _ _ rfl rfl (two_set x0 x1).1 (two_set x0 x1).2) rfl ⟨ret_dvm (m := (0, 17)) fin.out, (B8.out.setCell (by simp; omega) _).setCell (by simp; omega) _⟩
end Go.Proofs.Ytbfabnpcahinfaa
