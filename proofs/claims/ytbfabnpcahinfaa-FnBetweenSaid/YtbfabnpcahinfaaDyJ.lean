/- The simplest number between two: the search, by the program. -/
import Derived.Test.YtbfabnpcahinfaaDyI
import Derived.Deep.DeepCutAuto
import Derived.Deep.CutBlock
import Derived.Deep.LoopGhost
namespace Go.Proofs.Ytbfabnpcahinfaa
open Go.RowKit

/-- The first k / 2^pow between A / 2^16 and B / 2^16, pow = 17 - f on. -/
def btF (A B : Int) : Nat → Int × Int × Bool
  | 0 => (0, 0, false)
  | f + 1 => if (A / 2 ^ f + 1) * 2 ^ f < B then lowV (A / 2 ^ f + 1) (16 - f) else btF A B f
theorem btF_hit {A B : Int} {f : Nat} {U : Int} (hU : (2 : Int) ^ f = U) (h : (A / U + 1) * U < B) : btF A B (f + 1) = lowV (A / U + 1) (16 - f) := by subst hU; exact if_pos h
theorem btF_miss {A B : Int} {f : Nat} {U : Int} (hU : (2 : Int) ^ f = U) (h : ¬ (A / U + 1) * U < B) : btF A B (f + 1) = btF A B f := by subst hU; exact if_neg h
theorem sc16_bd {t p : Int} (hg : gd t p = true) : -65536065536 ≤ sc 16 t p ∧ sc 16 t p ≤ 65536065536 := by
  obtain ⟨h1, h2, _, _⟩ := gd_rng hg
  have := sc_bd (n := 16) (t := t) (p := p) (by omega) (by omega)
  simpa using this
theorem ret_rvm {m m' : Int × Int × Bool} (h : m = m') : Ending.returned (rv m) = .returned (rv m') := by rw [h]
set_option maxRecDepth 100000 in
set_option maxHeartbeats 8000000 in
theorem c_SB_pos (t p u q : Int) (w : World) (hg : gd t p = true) (hg2 : gd u q = true) (ht : 0 ≤ t) (hlt : sc 16 t p < sc 16 u q) :
    Calls Try.prog 32 #[dv t p, dv u q] w fun e w' => e = .returned (rv (btF (sc 16 t p) (sc 16 u q) 17)) ∧ Below w.heap.size w w' := by
  have hcmp : cmpV t p u q = (-1, true) := by simp [cmpV, hg, hg2, cmpI, hlt]
  have hA0 : 0 ≤ sc 16 t p := by
    rcases Int.lt_or_le (sc 16 t p) 0 with h | h
    · have := sc_lt.1 h; omega
    · exact h
  have hBb := (sc16_bd hg2).2
  have hAb := (sc16_bd hg).2
  have hu0 : 0 < u := by
    have : 0 < sc 16 u q := by omega
    exact sc_pos.1 this
  obtain ⟨g1, g2, g3, g4⟩ := gd_rng hg
  obtain ⟨k1, k2, k3, k4⟩ := gd_rng hg2
  have Hcmp := Lib.hid hcmp
  have HS1 := Lib.hid (fun w => c_scaled t p w g1 g2 g3 g4)
  have HS2 := Lib.hid (fun w => c_scaled u q w k1 k2 k3 k4)
  generalize sc 16 t p = A at *
  generalize sc 16 u q = B at *
  have HAB := Lib.hid hlt
  clear hcmp
  go_enter Try.func32, Try.ntmps32
  go_wp2_with fail
  refine (c_CompareDyadic _ _ _ _ _).mono ?_
  rintro e w1 ⟨rfl, b1⟩
  rw [Hcmp.out]
  have d0 : w1.cell? ⟨w.heap.size, 0, none⟩ = some (.int .i64 t) := bkeep b1 _ _ (by simp [go_sem])
  have d1 : w1.cell? ⟨w.heap.size, 1, none⟩ = some (.int .i64 p) := bkeep b1 _ _ (by simp [go_sem])
  have d2 : w1.cell? ⟨w.heap.size + 1, 0, none⟩ = some (.int .i64 u) := bkeep b1 _ _ (by simp [go_sem])
  have d3 : w1.cell? ⟨w.heap.size + 1, 1, none⟩ = some (.int .i64 q) := bkeep b1 _ _ (by simp [go_sem])
  have d4 : w1.cell? ⟨w.heap.size + 2, 0, none⟩ = some (.int .i64 0) := bkeep b1 _ _ (by simp [go_sem])
  have d5 : w1.cell? ⟨w.heap.size + 2, 1, none⟩ = some (.int .i64 0) := bkeep b1 _ _ (by simp [go_sem])
  have f1 : ∀ o, w1.frozen? ⟨w.heap.size + 2, o, none⟩ = false := fun o => ((bcell b1).2 _ _ (by simp)).trans (by simp [go_sem])
  have B1 : Below w.heap.size w w1 := Below.next (by go_grown) b1
  have hA2 : IntKind.i64.wrap (2 * A) = 2 * A := IntWalk.i64_in _ (by omega)
  have hB2 : IntKind.i64.wrap (2 * B) = 2 * B := IntWalk.i64_in _ (by omega)
  clear b1
  have D4 := Lib.hid d4
  have D5 := Lib.hid d5
  have F1 := Lib.hid f1
  have BB := Lib.hid B1
  clear d4 d5 f1 B1
  go_upto_region 9 with fail
  go_cut [10, 11] (fun v10 v11 wx => v10 = .int .i64 (2 * A) ∧ v11 = .int .i64 (2 * B) ∧ Below w1.heap.size w1 wx)
  case first =>
    go_region_held3 (fun w' => w'.cell? ⟨w.heap.size, 0, none⟩ = some (.int .i64 t) ∧ w'.cell? ⟨w.heap.size, 1, none⟩ = some (.int .i64 p) ∧ w'.cell? ⟨w.heap.size + 1, 0, none⟩ = some (.int .i64 u) ∧ w'.cell? ⟨w.heap.size + 1, 1, none⟩ = some (.int .i64 q)) (go_keep)
      (first | (go_at_call 52; refine (HS1.out _).mono ?_; rintro e w' ⟨rfl, b⟩; have hk := bkeep b) | (go_at_call 52; refine (HS2.out _).mono ?_; rintro e w' ⟨rfl, b⟩; have hk := bkeep b))
    all_goals
      go_wp2_with fail
      go_meet
      case rel =>
        refine ⟨rfl, rfl, ?_⟩
        refine Below.next ?_ (by assumption)
        refine Below.next ?_ (by assumption)
        go_grown
  case rest =>
    obtain ⟨rfl, rfl, b2⟩ := hcut
    clear hA2 hB2 d0 d1 d2 d3 HS1 HS2 Hcmp g1 g2 g3 g4 k1 k2 k3 k4 hu0 ht hg hg2
    have x0 : wc.cell? ⟨w.heap.size + 2, 0, none⟩ = some (.int .i64 0) := bkeep b2 _ _ D4.out
    have x1 : wc.cell? ⟨w.heap.size + 2, 1, none⟩ = some (.int .i64 0) := bkeep b2 _ _ D5.out
    have y0 : ∀ o, wc.frozen? ⟨w.heap.size + 2, o, none⟩ = false := fun o => ((bcell b2).2 _ _ (cell_lt D4.out)).trans (F1.out o)
    have BC := Lib.hid (Below.next BB.out b2)
    clear b2
    go_wp2_with fail
    clear hlt
    go_loop [12] (fun i => ∃ (n : Nat), n ≤ 17 ∧ i = .int .i64 n ∧ Hid (btF A B (17 - n) = btF A B 17)) (fun i => 17 - (intOf i).toNat)
    case atStart => exact ⟨0, by omega, rfl, Lib.hid rfl⟩
    case round =>
      obtain ⟨n, hn, rfl, hrem⟩ := hrel
      by_cases hn16 : n ≤ 16
      · obtain ⟨K, hK⟩ : ∃ K, Hid (A / 2 ^ (16 - n) + 1 = K) := ⟨_, Lib.hid rfl⟩
        obtain ⟨hit, hh⟩ : ∃ hit, Hid (decide (K * 2 ^ (16 - n) < B) = hit) := ⟨_, Lib.hid rfl⟩
        have hKb : Hid (1 ≤ K ∧ K ≤ 65536065537) := Lib.hid (by
          have hp : (0 : Int) < 2 ^ (16 - n) := pow_pos _
          have h1 : 0 ≤ A / 2 ^ (16 - n) := Int.ediv_nonneg hA0 (by omega)
          have h2 : A / 2 ^ (16 - n) ≤ A := Int.ediv_le_self _ hA0
          rw [← hK.out]; omega)
        have Hrem := Lib.hid hrem.out
        have X0 := Lib.hid x0
        have X1 := Lib.hid x1
        have Y0 := Lib.hid y0
        have Hn := Lib.hid hn16
        clear hn hrem x0 x1 y0
        obtain ⟨U, hU⟩ : ∃ U, Hid ((2 : Int) ^ (17 - n) = U) := ⟨_, Lib.hid rfl⟩
        have hcases : n = 0 ∨ n = 1 ∨ n = 2 ∨ n = 3 ∨ n = 4 ∨ n = 5 ∨ n = 6 ∨ n = 7 ∨ n = 8 ∨ n = 9 ∨ n = 10 ∨ n = 11 ∨ n = 12 ∨ n = 13 ∨ n = 14 ∨ n = 15 ∨ n = 16 := by omega
        have Hcases := Lib.hid hcases
        clear hcases
        go_upto_region 13 with fail
        go_cut [13] (fun v13 wx => v13 = .int .i64 U ∧ wx = wc)
        case first =>
          clear hK hh hKb
          rcases Hcases.out with rfl | rfl | rfl | rfl | rfl | rfl | rfl | rfl | rfl | rfl | rfl | rfl | rfl | rfl | rfl | rfl | rfl
          all_goals
            go_wp2_with fail
            go_meet
            case rel => exact ⟨by rw [← hU.out]; rfl, rfl⟩
        case rest =>
        obtain ⟨rfl, rfl⟩ := hcut
        go_upto_region 14 with fail
        go_cut [14] (fun v14 wx => v14 = .int .i64 K ∧ wx = wc)
        case first =>
          rcases Hcases.out with rfl | rfl | rfl | rfl | rfl | rfl | rfl | rfl | rfl | rfl | rfl | rfl | rfl | rfl | rfl | rfl | rfl
          · have eK : Hid (2 * A / 131072 + 1 = K) := Lib.hid (by rw [← hK.out, show (2 : Int) ^ (16 - 0) = 65536 from by decide]; omega)
            obtain rfl : 131072 = U := by rw [← hU.out]; rfl
            go_wp2_with fail
            go_meet
            case rel => exact ⟨by have e := eK.out; simp only [Value.int.injEq, true_and]; omega, rfl⟩
          · have eK : Hid (2 * A / 65536 + 1 = K) := Lib.hid (by rw [← hK.out, show (2 : Int) ^ (16 - 1) = 32768 from by decide]; omega)
            obtain rfl : 65536 = U := by rw [← hU.out]; rfl
            go_wp2_with fail
            go_meet
            case rel => exact ⟨by have e := eK.out; simp only [Value.int.injEq, true_and]; omega, rfl⟩
          · have eK : Hid (2 * A / 32768 + 1 = K) := Lib.hid (by rw [← hK.out, show (2 : Int) ^ (16 - 2) = 16384 from by decide]; omega)
            obtain rfl : 32768 = U := by rw [← hU.out]; rfl
            go_wp2_with fail
            go_meet
            case rel => exact ⟨by have e := eK.out; simp only [Value.int.injEq, true_and]; omega, rfl⟩
          · have eK : Hid (2 * A / 16384 + 1 = K) := Lib.hid (by rw [← hK.out, show (2 : Int) ^ (16 - 3) = 8192 from by decide]; omega)
            obtain rfl : 16384 = U := by rw [← hU.out]; rfl
            go_wp2_with fail
            go_meet
            case rel => exact ⟨by have e := eK.out; simp only [Value.int.injEq, true_and]; omega, rfl⟩
          · have eK : Hid (2 * A / 8192 + 1 = K) := Lib.hid (by rw [← hK.out, show (2 : Int) ^ (16 - 4) = 4096 from by decide]; omega)
            obtain rfl : 8192 = U := by rw [← hU.out]; rfl
            go_wp2_with fail
            go_meet
            case rel => exact ⟨by have e := eK.out; simp only [Value.int.injEq, true_and]; omega, rfl⟩
          · have eK : Hid (2 * A / 4096 + 1 = K) := Lib.hid (by rw [← hK.out, show (2 : Int) ^ (16 - 5) = 2048 from by decide]; omega)
            obtain rfl : 4096 = U := by rw [← hU.out]; rfl
            go_wp2_with fail
            go_meet
            case rel => exact ⟨by have e := eK.out; simp only [Value.int.injEq, true_and]; omega, rfl⟩
          · have eK : Hid (2 * A / 2048 + 1 = K) := Lib.hid (by rw [← hK.out, show (2 : Int) ^ (16 - 6) = 1024 from by decide]; omega)
            obtain rfl : 2048 = U := by rw [← hU.out]; rfl
            go_wp2_with fail
            go_meet
            case rel => exact ⟨by have e := eK.out; simp only [Value.int.injEq, true_and]; omega, rfl⟩
          · have eK : Hid (2 * A / 1024 + 1 = K) := Lib.hid (by rw [← hK.out, show (2 : Int) ^ (16 - 7) = 512 from by decide]; omega)
            obtain rfl : 1024 = U := by rw [← hU.out]; rfl
            go_wp2_with fail
            go_meet
            case rel => exact ⟨by have e := eK.out; simp only [Value.int.injEq, true_and]; omega, rfl⟩
          · have eK : Hid (2 * A / 512 + 1 = K) := Lib.hid (by rw [← hK.out, show (2 : Int) ^ (16 - 8) = 256 from by decide]; omega)
            obtain rfl : 512 = U := by rw [← hU.out]; rfl
            go_wp2_with fail
            go_meet
            case rel => exact ⟨by have e := eK.out; simp only [Value.int.injEq, true_and]; omega, rfl⟩
          · have eK : Hid (2 * A / 256 + 1 = K) := Lib.hid (by rw [← hK.out, show (2 : Int) ^ (16 - 9) = 128 from by decide]; omega)
            obtain rfl : 256 = U := by rw [← hU.out]; rfl
            go_wp2_with fail
            go_meet
            case rel => exact ⟨by have e := eK.out; simp only [Value.int.injEq, true_and]; omega, rfl⟩
          · have eK : Hid (2 * A / 128 + 1 = K) := Lib.hid (by rw [← hK.out, show (2 : Int) ^ (16 - 10) = 64 from by decide]; omega)
            obtain rfl : 128 = U := by rw [← hU.out]; rfl
            go_wp2_with fail
            go_meet
            case rel => exact ⟨by have e := eK.out; simp only [Value.int.injEq, true_and]; omega, rfl⟩
          · have eK : Hid (2 * A / 64 + 1 = K) := Lib.hid (by rw [← hK.out, show (2 : Int) ^ (16 - 11) = 32 from by decide]; omega)
            obtain rfl : 64 = U := by rw [← hU.out]; rfl
            go_wp2_with fail
            go_meet
            case rel => exact ⟨by have e := eK.out; simp only [Value.int.injEq, true_and]; omega, rfl⟩
          · have eK : Hid (2 * A / 32 + 1 = K) := Lib.hid (by rw [← hK.out, show (2 : Int) ^ (16 - 12) = 16 from by decide]; omega)
            obtain rfl : 32 = U := by rw [← hU.out]; rfl
            go_wp2_with fail
            go_meet
            case rel => exact ⟨by have e := eK.out; simp only [Value.int.injEq, true_and]; omega, rfl⟩
          · have eK : Hid (2 * A / 16 + 1 = K) := Lib.hid (by rw [← hK.out, show (2 : Int) ^ (16 - 13) = 8 from by decide]; omega)
            obtain rfl : 16 = U := by rw [← hU.out]; rfl
            go_wp2_with fail
            go_meet
            case rel => exact ⟨by have e := eK.out; simp only [Value.int.injEq, true_and]; omega, rfl⟩
          · have eK : Hid (2 * A / 8 + 1 = K) := Lib.hid (by rw [← hK.out, show (2 : Int) ^ (16 - 14) = 4 from by decide]; omega)
            obtain rfl : 8 = U := by rw [← hU.out]; rfl
            go_wp2_with fail
            go_meet
            case rel => exact ⟨by have e := eK.out; simp only [Value.int.injEq, true_and]; omega, rfl⟩
          · have eK : Hid (2 * A / 4 + 1 = K) := Lib.hid (by rw [← hK.out, show (2 : Int) ^ (16 - 15) = 2 from by decide]; omega)
            obtain rfl : 4 = U := by rw [← hU.out]; rfl
            go_wp2_with fail
            go_meet
            case rel => exact ⟨by have e := eK.out; simp only [Value.int.injEq, true_and]; omega, rfl⟩
          · have eK : Hid (2 * A / 2 + 1 = K) := Lib.hid (by rw [← hK.out, show (2 : Int) ^ (16 - 16) = 1 from by decide]; omega)
            obtain rfl : 2 = U := by rw [← hU.out]; rfl
            go_wp2_with fail
            go_meet
            case rel => exact ⟨by have e := eK.out; simp only [Value.int.injEq, true_and]; omega, rfl⟩
        case rest =>
        obtain ⟨rfl, rfl⟩ := hcut
        go_upto_region 15 with fail
        go_cut [84] (fun v84 wx => v84 = .bool hit ∧ wx = wc)
        case first =>
          obtain ⟨K0, K1⟩ := hKb.out
          rcases Hcases.out with rfl | rfl | rfl | rfl | rfl | rfl | rfl | rfl | rfl | rfl | rfl | rfl | rfl | rfl | rfl | rfl | rfl
          · have eh : Hid (decide (K * 131072 < 2 * B) = hit) := Lib.hid (by rw [← hh.out, show (2 : Int) ^ (16 - 0) = 65536 from by decide]; exact decide_eq_decide.2 ⟨fun h => by omega, fun h => by omega⟩)
            obtain rfl : 131072 = U := by rw [← hU.out]; rfl
            go_wp2_with fail
            go_meet
            case rel => exact ⟨by rw [← eh.out], rfl⟩
          · have eh : Hid (decide (K * 65536 < 2 * B) = hit) := Lib.hid (by rw [← hh.out, show (2 : Int) ^ (16 - 1) = 32768 from by decide]; exact decide_eq_decide.2 ⟨fun h => by omega, fun h => by omega⟩)
            obtain rfl : 65536 = U := by rw [← hU.out]; rfl
            go_wp2_with fail
            go_meet
            case rel => exact ⟨by rw [← eh.out], rfl⟩
          · have eh : Hid (decide (K * 32768 < 2 * B) = hit) := Lib.hid (by rw [← hh.out, show (2 : Int) ^ (16 - 2) = 16384 from by decide]; exact decide_eq_decide.2 ⟨fun h => by omega, fun h => by omega⟩)
            obtain rfl : 32768 = U := by rw [← hU.out]; rfl
            go_wp2_with fail
            go_meet
            case rel => exact ⟨by rw [← eh.out], rfl⟩
          · have eh : Hid (decide (K * 16384 < 2 * B) = hit) := Lib.hid (by rw [← hh.out, show (2 : Int) ^ (16 - 3) = 8192 from by decide]; exact decide_eq_decide.2 ⟨fun h => by omega, fun h => by omega⟩)
            obtain rfl : 16384 = U := by rw [← hU.out]; rfl
            go_wp2_with fail
            go_meet
            case rel => exact ⟨by rw [← eh.out], rfl⟩
          · have eh : Hid (decide (K * 8192 < 2 * B) = hit) := Lib.hid (by rw [← hh.out, show (2 : Int) ^ (16 - 4) = 4096 from by decide]; exact decide_eq_decide.2 ⟨fun h => by omega, fun h => by omega⟩)
            obtain rfl : 8192 = U := by rw [← hU.out]; rfl
            go_wp2_with fail
            go_meet
            case rel => exact ⟨by rw [← eh.out], rfl⟩
          · have eh : Hid (decide (K * 4096 < 2 * B) = hit) := Lib.hid (by rw [← hh.out, show (2 : Int) ^ (16 - 5) = 2048 from by decide]; exact decide_eq_decide.2 ⟨fun h => by omega, fun h => by omega⟩)
            obtain rfl : 4096 = U := by rw [← hU.out]; rfl
            go_wp2_with fail
            go_meet
            case rel => exact ⟨by rw [← eh.out], rfl⟩
          · have eh : Hid (decide (K * 2048 < 2 * B) = hit) := Lib.hid (by rw [← hh.out, show (2 : Int) ^ (16 - 6) = 1024 from by decide]; exact decide_eq_decide.2 ⟨fun h => by omega, fun h => by omega⟩)
            obtain rfl : 2048 = U := by rw [← hU.out]; rfl
            go_wp2_with fail
            go_meet
            case rel => exact ⟨by rw [← eh.out], rfl⟩
          · have eh : Hid (decide (K * 1024 < 2 * B) = hit) := Lib.hid (by rw [← hh.out, show (2 : Int) ^ (16 - 7) = 512 from by decide]; exact decide_eq_decide.2 ⟨fun h => by omega, fun h => by omega⟩)
            obtain rfl : 1024 = U := by rw [← hU.out]; rfl
            go_wp2_with fail
            go_meet
            case rel => exact ⟨by rw [← eh.out], rfl⟩
          · have eh : Hid (decide (K * 512 < 2 * B) = hit) := Lib.hid (by rw [← hh.out, show (2 : Int) ^ (16 - 8) = 256 from by decide]; exact decide_eq_decide.2 ⟨fun h => by omega, fun h => by omega⟩)
            obtain rfl : 512 = U := by rw [← hU.out]; rfl
            go_wp2_with fail
            go_meet
            case rel => exact ⟨by rw [← eh.out], rfl⟩
          · have eh : Hid (decide (K * 256 < 2 * B) = hit) := Lib.hid (by rw [← hh.out, show (2 : Int) ^ (16 - 9) = 128 from by decide]; exact decide_eq_decide.2 ⟨fun h => by omega, fun h => by omega⟩)
            obtain rfl : 256 = U := by rw [← hU.out]; rfl
            go_wp2_with fail
            go_meet
            case rel => exact ⟨by rw [← eh.out], rfl⟩
          · have eh : Hid (decide (K * 128 < 2 * B) = hit) := Lib.hid (by rw [← hh.out, show (2 : Int) ^ (16 - 10) = 64 from by decide]; exact decide_eq_decide.2 ⟨fun h => by omega, fun h => by omega⟩)
            obtain rfl : 128 = U := by rw [← hU.out]; rfl
            go_wp2_with fail
            go_meet
            case rel => exact ⟨by rw [← eh.out], rfl⟩
          · have eh : Hid (decide (K * 64 < 2 * B) = hit) := Lib.hid (by rw [← hh.out, show (2 : Int) ^ (16 - 11) = 32 from by decide]; exact decide_eq_decide.2 ⟨fun h => by omega, fun h => by omega⟩)
            obtain rfl : 64 = U := by rw [← hU.out]; rfl
            go_wp2_with fail
            go_meet
            case rel => exact ⟨by rw [← eh.out], rfl⟩
          · have eh : Hid (decide (K * 32 < 2 * B) = hit) := Lib.hid (by rw [← hh.out, show (2 : Int) ^ (16 - 12) = 16 from by decide]; exact decide_eq_decide.2 ⟨fun h => by omega, fun h => by omega⟩)
            obtain rfl : 32 = U := by rw [← hU.out]; rfl
            go_wp2_with fail
            go_meet
            case rel => exact ⟨by rw [← eh.out], rfl⟩
          · have eh : Hid (decide (K * 16 < 2 * B) = hit) := Lib.hid (by rw [← hh.out, show (2 : Int) ^ (16 - 13) = 8 from by decide]; exact decide_eq_decide.2 ⟨fun h => by omega, fun h => by omega⟩)
            obtain rfl : 16 = U := by rw [← hU.out]; rfl
            go_wp2_with fail
            go_meet
            case rel => exact ⟨by rw [← eh.out], rfl⟩
          · have eh : Hid (decide (K * 8 < 2 * B) = hit) := Lib.hid (by rw [← hh.out, show (2 : Int) ^ (16 - 14) = 4 from by decide]; exact decide_eq_decide.2 ⟨fun h => by omega, fun h => by omega⟩)
            obtain rfl : 8 = U := by rw [← hU.out]; rfl
            go_wp2_with fail
            go_meet
            case rel => exact ⟨by rw [← eh.out], rfl⟩
          · have eh : Hid (decide (K * 4 < 2 * B) = hit) := Lib.hid (by rw [← hh.out, show (2 : Int) ^ (16 - 15) = 2 from by decide]; exact decide_eq_decide.2 ⟨fun h => by omega, fun h => by omega⟩)
            obtain rfl : 4 = U := by rw [← hU.out]; rfl
            go_wp2_with fail
            go_meet
            case rel => exact ⟨by rw [← eh.out], rfl⟩
          · have eh : Hid (decide (K * 2 < 2 * B) = hit) := Lib.hid (by rw [← hh.out, show (2 : Int) ^ (16 - 16) = 1 from by decide]; exact decide_eq_decide.2 ⟨fun h => by omega, fun h => by omega⟩)
            obtain rfl : 2 = U := by rw [← hU.out]; rfl
            go_wp2_with fail
            go_meet
            case rel => exact ⟨by rw [← eh.out], rfl⟩
        case rest =>
          obtain ⟨rfl, rfl⟩ := hcut
          have x0 := X0.out
          have x1 := X1.out
          have y0 := Y0.out
          obtain ⟨K0, K1⟩ := hKb.out
          cases hit
          · have hrem' : Hid (btF A B (17 - (n + 1)) = btF A B 17) := Lib.hid (by
              rw [← Hrem.out, show 17 - n = (16 - n) + 1 from by have := Hn.out; omega, btF_miss (f := 16 - n) rfl (by rw [hK.out]; exact of_decide_eq_false hh.out), show 17 - (n + 1) = 16 - n from by omega])
            clear x0 x1 y0
            go_wp2_with fail
            go_round
            case rel => exact ⟨n + 1, by have := Hn.out; omega, by go_num, hrem'⟩
            case measure => simp [intOf]; omega
          · have fin : Hid (lowV K n = btF A B 17) := Lib.hid (by
              rw [← Hrem.out, show 17 - n = (16 - n) + 1 from by have := Hn.out; omega, btF_hit (f := 16 - n) rfl (by rw [hK.out]; exact of_decide_eq_true hh.out), hK.out, show 16 - (16 - n) = n from by have := Hn.out; omega])
            have HL := Lib.hid (fun w => c_lowest K n w (by omega) (by omega) (by omega))
            go_wp2_with fail
            refine (HL.out _).mono ?_
            rintro e w3 ⟨rfl, b3⟩
            rw [fin.out]
            have z0 := bkeep b3 _ _ x0
            have z1 := bkeep b3 _ _ x1
            have zf : ∀ o, w3.frozen? ⟨w.heap.size + 2, o, none⟩ = false := fun o => ((bcell b3).2 _ _ (cell_lt x0)).trans (y0 o)
            have B3 := Lib.hid (Below.next BC.out b3)
            clear b3 x0 x1 y0
            go_wp2_with fail
            exact bodyPost_ret (res_rv _ _ rfl rfl rfl (two_set z0 z1).1 (two_set z0 z1).2) rfl ⟨rfl, (B3.out.setCell (by simp; omega) _).setCell (by simp; omega) _⟩
      · obtain rfl : n = 17 := by omega
        have fin : Hid ((0, 0, false) = btF A B 17) := Lib.hid (by rw [← hrem.out]; rfl)
        go_wp2_with fail
        exact bodyPost_ret (res_rv _ _ rfl rfl rfl (two_set x0 x1).1 (two_set x0 x1).2) rfl ⟨ret_rvm fin.out, (BC.out.setCell (by simp; omega) _).setCell (by simp; omega) _⟩
end Go.Proofs.Ytbfabnpcahinfaa
