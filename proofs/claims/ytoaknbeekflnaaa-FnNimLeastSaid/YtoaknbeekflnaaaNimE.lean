/- NimSolve, PilesValue, PileMove: contracts of both, and the walks of their laws. -/
import Derived.Test.YtoaknbeekflnaaaNimD
namespace Go.Proofs.Ytoaknbeekflnaaa
open Go.RowKit

theorem Below.next {a b c : World} (h : Below a.heap.size a b) (k : Below b.heap.size b c) : Below a.heap.size a c := h.trans (k.mono h.size)

/-- Does x solve the equation? -/
def sT (a b x : Nat) : Bool := bits .xor .i64 (bits .xor .i64 ((Nim.nm x x : Nat) : Int) ((Nim.nm a x : Nat) : Int)) (b : Int) == 0
/-- The first solution from k on. -/
def svFrom (a b : Nat) : Nat → Nat → Int
  | 0, _ => -1
  | f + 1, k => if sT a b k then (k : Int) else svFrom a b f (k + 1)
def fSolve (a b : Int) : Int := if inB a 0 255 && inB b 0 255 then svFrom a.toNat b.toNat 256 0 else -1
theorem fSolve_yes {a b : Nat} (ha : a < 256) (hb : b < 256) : fSolve a b = svFrom a b 256 0 := by
  unfold fSolve
  rw [inB_true.2 ⟨by omega, by omega⟩, inB_true.2 ⟨by omega, by omega⟩]
  rfl
set_option maxRecDepth 100000 in
set_option maxHeartbeats 800000 in
theorem c_NimSolve (a b : Int) (w : World) :
    Calls Try.prog 26 #[.int .i64 a, .int .i64 b] w fun e w' => e = .returned (.int .i64 (fSolve a b)) ∧ Q w w' := by
  cases h1 : inB a 0 255
  · have fin : Hid (fSolve a b = -1) := Lib.hid (by simp [fSolve, h1])
    go_enter Try.func26, Try.ntmps26
    go_wp2_with (go_at_call 43; refine (c_isNim _ _).mono ?_; rintro e w' ⟨rfl, rfl⟩)
    go_ret
    exact ⟨ret_int fin.out.symm, Q.refl _⟩
  · cases h2 : inB b 0 255
    · have fin : Hid (fSolve a b = -1) := Lib.hid (by simp [fSolve, h2])
      go_enter Try.func26, Try.ntmps26
      go_wp2_with (go_at_call 43; refine (c_isNim _ _).mono ?_; rintro e w' ⟨rfl, rfl⟩)
      go_ret
      exact ⟨ret_int fin.out.symm, Q.refl _⟩
    · obtain ⟨a0, a1⟩ := inB_true.1 h1
      obtain ⟨b0, b1⟩ := inB_true.1 h2
      obtain ⟨a, rfl⟩ := Int.eq_ofNat_of_zero_le a0
      obtain ⟨b, rfl⟩ := Int.eq_ofNat_of_zero_le b0
      obtain ⟨R, hR⟩ : ∃ R, Hid (svFrom a b 256 0 = R) := ⟨_, Lib.hid rfl⟩
      have fin : Hid (fSolve a b = R) := Lib.hid (by rw [← hR.out]; exact fSolve_yes (by omega) (by omega))
      go_enter Try.func26, Try.ntmps26
      go_wp2_with (go_at_call 43; refine (c_isNim _ _).mono ?_; rintro e w' ⟨rfl, rfl⟩)
      clear h1 h2
      go_loopw [14] (fun i wr => ∃ k : Nat, k ≤ 256 ∧ i = .int .i64 k ∧ Hid (svFrom a b (256 - k) k = R) ∧ Q w wr) (fun i _ => 256 - (intOf i).toNat)
      case atStart => exact ⟨0, Nat.zero_le _, rfl, hR, Q.refl _⟩
      case round =>
        obtain ⟨k, hk, rfl, hrem, q⟩ := hrel
        clear hR
        by_cases hlt : k < 256
        · cases ht : sT a b k
          · have hrem' : Hid (svFrom a b (256 - (k + 1)) (k + 1) = R) := Lib.hid (by
              rw [← hrem.out, show 256 - k = (256 - (k + 1)) + 1 from by omega]; simp [svFrom, ht])
            unfold sT at ht
            go_wp2_with fail
            refine (c_nimProductN _ _ _ hlt hlt).mono ?_
            rintro e w1 ⟨rfl, q1⟩
            go_wp2_with fail
            refine (c_nimProductN _ _ _ (by omega) hlt).mono ?_
            rintro e w2 ⟨rfl, q2⟩
            go_wp2_with fail
            go_roundw
            case rel => exact ⟨k + 1, by omega, by go_num, hrem', (q.trans q1).trans q2⟩
            case measure => simp [intOf]; omega
          · have hres : Hid (R = (k : Int)) := Lib.hid (by
              rw [← hrem.out, show 256 - k = (256 - (k + 1)) + 1 from by omega]; simp [svFrom, ht])
            unfold sT at ht
            go_wp2_with fail
            refine (c_nimProductN _ _ _ hlt hlt).mono ?_
            rintro e w1 ⟨rfl, q1⟩
            go_wp2_with fail
            refine (c_nimProductN _ _ _ (by omega) hlt).mono ?_
            rintro e w2 ⟨rfl, q2⟩
            go_wp2_with fail
            go_ret
            exact ⟨ret_int (by rw [fin.out, hres.out]), (q.trans q1).trans q2⟩
        · obtain rfl : k = 256 := by omega
          have hres : Hid (R = -1) := Lib.hid (by rw [← hrem.out]; rfl)
          go_wp2_with fail
          go_ret
          exact ⟨ret_int (by rw [fin.out, hres.out]), q⟩
set_option maxHeartbeats 800000 in
theorem s_NimSolve (a b : Int) (w : World) :
    Calls Try.prog 25 #[.int .i64 a, .int .i64 b] w fun e w' => e = .returned (.int .i64 (fSolve a b)) ∧ Q w w' := by
  cases h1 : inB a 0 255
  · have fin : Hid (fSolve a b = -1) := Lib.hid (by simp [fSolve, h1])
    go_enter Try.func25, Try.ntmps25
    go_wp2_with (go_at_call 42; refine (c_l16Nimber _ _).mono ?_; rintro e w' ⟨rfl, rfl⟩)
    go_ret
    exact ⟨ret_int fin.out.symm, Q.refl _⟩
  · cases h2 : inB b 0 255
    · have fin : Hid (fSolve a b = -1) := Lib.hid (by simp [fSolve, h2])
      go_enter Try.func25, Try.ntmps25
      go_wp2_with (go_at_call 42; refine (c_l16Nimber _ _).mono ?_; rintro e w' ⟨rfl, rfl⟩)
      go_ret
      exact ⟨ret_int fin.out.symm, Q.refl _⟩
    · obtain ⟨a0, a1⟩ := inB_true.1 h1
      obtain ⟨b0, b1⟩ := inB_true.1 h2
      obtain ⟨a, rfl⟩ := Int.eq_ofNat_of_zero_le a0
      obtain ⟨b, rfl⟩ := Int.eq_ofNat_of_zero_le b0
      obtain ⟨R, hR⟩ : ∃ R, Hid (svFrom a b 256 0 = R) := ⟨_, Lib.hid rfl⟩
      have fin : Hid (fSolve a b = R) := Lib.hid (by rw [← hR.out]; exact fSolve_yes (by omega) (by omega))
      go_enter Try.func25, Try.ntmps25
      go_wp2_with (go_at_call 42; refine (c_l16Nimber _ _).mono ?_; rintro e w' ⟨rfl, rfl⟩)
      clear h1 h2
      go_loopw [5] (fun i wr => ∃ k : Nat, k ≤ 256 ∧ i = .int .i64 k ∧ Hid (svFrom a b (256 - k) k = R) ∧ Q w wr) (fun i _ => 256 - (intOf i).toNat)
      case atStart => exact ⟨0, Nat.zero_le _, rfl, hR, Q.refl _⟩
      case round =>
        obtain ⟨k, hk, rfl, hrem, q⟩ := hrel
        clear hR
        by_cases hlt : k < 256
        · cases ht : sT a b k
          · have hrem' : Hid (svFrom a b (256 - (k + 1)) (k + 1) = R) := Lib.hid (by
              rw [← hrem.out, show 256 - k = (256 - (k + 1)) + 1 from by omega]; simp [svFrom, ht])
            unfold sT at ht
            go_wp2_with fail
            refine (c_l16TimesN _ _ _ hlt hlt).mono ?_
            rintro e w1 ⟨rfl, q1⟩
            go_wp2_with fail
            refine (c_l16TimesN _ _ _ (by omega) hlt).mono ?_
            rintro e w2 ⟨rfl, q2⟩
            go_wp2_with fail
            go_roundw
            case rel => exact ⟨k + 1, by omega, by go_num, hrem', (q.trans q1).trans q2⟩
            case measure => simp [intOf]; omega
          · have hres : Hid (R = (k : Int)) := Lib.hid (by
              rw [← hrem.out, show 256 - k = (256 - (k + 1)) + 1 from by omega]; simp [svFrom, ht])
            unfold sT at ht
            go_wp2_with fail
            refine (c_l16TimesN _ _ _ hlt hlt).mono ?_
            rintro e w1 ⟨rfl, q1⟩
            go_wp2_with fail
            refine (c_l16TimesN _ _ _ (by omega) hlt).mono ?_
            rintro e w2 ⟨rfl, q2⟩
            go_wp2_with fail
            go_ret
            exact ⟨ret_int (by rw [fin.out, hres.out]), (q.trans q1).trans q2⟩
        · obtain rfl : k = 256 := by omega
          have hres : Hid (R = -1) := Lib.hid (by rw [← hrem.out]; rfl)
          go_wp2_with fail
          go_ret
          exact ⟨ret_int (by rw [fin.out, hres.out]), q⟩
set_option maxHeartbeats 400000 in
theorem w_FnExactNimSolve (a b : Int) (w : World) (_wa : (Lit.int .i64 a).wf = true) (_wb : (Lit.int .i64 b).wf = true) :
    Calls Try.prog 7 #[.int .i64 a, .int .i64 b] w fun e w' => e = .returned (.bool true) ∧ Below w.heap.size w w' := by
  clear _wa _wb
  go_enter Try.func7, Try.ntmps7
  go_wp2_with fail
  refine (s_NimSolve _ _ _).mono ?_
  rintro e w1 ⟨rfl, q1⟩
  go_wp2_with fail
  refine (c_NimSolve _ _ _).mono ?_
  rintro e w2 ⟨rfl, q2⟩
  go_wp2_with fail
  go_ret
  exact ⟨rfl, (q1.trans q2).below⟩

/-- The nim sum of a list, -1 where a number is no nimber. -/
def pv (acc : Int) : List Int → Int
  | [] => acc
  | x :: r => if inB x 0 255 then pv (bits .xor .i64 acc x) r else -1
def fPiles (xs : List Int) : Int := if xs.length ≤ 300 then pv 0 xs else -1
theorem pv_at {acc : Int} {xs : List Int} {k : Nat} (h : k < xs.length) : pv acc (xs.drop k) = if inB (xs.getD k 0) 0 255 then pv (bits .xor .i64 acc (xs.getD k 0)) (xs.drop (k + 1)) else -1 := by
  rw [List.drop_eq_getElem_cons h]
  simp [pv, h]
set_option maxHeartbeats 800000 in
theorem c_PilesValue (A : Option Addr) (c : Nat) (xs : List Int) (w : World) (rd : RdI w A xs.length xs) :
    Calls Try.prog 23 #[.slice A xs.length c] w fun e w' => e = .returned (.int .i64 (fPiles xs)) ∧ Q w w' := by
  by_cases hn : xs.length ≤ 300
  · have fin : Hid (fPiles xs = pv 0 xs) := Lib.hid (by unfold fPiles; rw [if_pos hn])
    go_enter Try.func23, Try.ntmps23
    go_wp2_with fail
    go_loopw [3, 11] (fun v i wr => ∃ (k : Nat) (acc : Int), k ≤ xs.length ∧ i = .int .i64 k ∧ v = .int .i64 acc ∧ Hid (pv acc (xs.drop k) = pv 0 xs) ∧ Q w wr) (fun _ i _ => xs.length - (intOf i).toNat)
    case atStart => exact ⟨0, 0, Nat.zero_le _, rfl, rfl, Lib.hid rfl, Q.refl _⟩
    case round =>
      rename_i wr
      obtain ⟨k, acc, hk, rfl, rfl, hrem, q⟩ := hrel
      by_cases hlt : k < xs.length
      · obtain ⟨b, off, rfl, _, hc⟩ := (rd.q q).at_ hlt
        have hat := pv_at (acc := acc) hlt
        generalize hx : xs.getD k 0 = x at hat hc
        clear hx
        cases hb : inB x 0 255
        · have hres : Hid (pv 0 xs = -1) := Lib.hid (by rw [← hrem.out, hat, hb]; rfl)
          clear hat
          go_wp2_with (go_at_call 43; refine (c_isNim _ _).mono ?_; rintro e w' ⟨rfl, rfl⟩)
          go_ret
          exact ⟨ret_int (by rw [fin.out, hres.out]), q⟩
        · have hrem' : Hid (pv (bits .xor .i64 acc x) (xs.drop (k + 1)) = pv 0 xs) := Lib.hid (by rw [← hrem.out, hat, hb]; rfl)
          clear hat
          go_wp2_with (go_at_call 43; refine (c_isNim _ _).mono ?_; rintro e w' ⟨rfl, rfl⟩)
          go_roundw
          case rel => exact ⟨k + 1, _, by omega, by go_num, rfl, hrem', q⟩
          case measure => simp [intOf]; omega
      · obtain rfl : k = xs.length := by omega
        have hres : Hid (pv 0 xs = acc) := Lib.hid (by rw [← hrem.out, List.drop_length]; rfl)
        go_wp2_with fail
        go_ret
        exact ⟨ret_int (by rw [fin.out, hres.out]), q⟩
  · have fin : Hid (fPiles xs = -1) := Lib.hid (by unfold fPiles; rw [if_neg hn])
    go_enter Try.func23, Try.ntmps23
    go_wp2_with fail
    go_ret
    exact ⟨ret_int fin.out.symm, Q.refl _⟩
set_option maxHeartbeats 800000 in
theorem s_PilesValue (A : Option Addr) (c : Nat) (xs : List Int) (w : World) (rd : RdI w A xs.length xs) :
    Calls Try.prog 21 #[.slice A xs.length c] w fun e w' => e = .returned (.int .i64 (fPiles xs)) ∧ Q w w' := by
  by_cases hn : xs.length ≤ 300
  · have fin : Hid (fPiles xs = pv 0 xs) := Lib.hid (by unfold fPiles; rw [if_pos hn])
    go_enter Try.func21, Try.ntmps21
    go_wp2_with fail
    go_loopw [3, 4] (fun v i wr => ∃ (k : Nat) (acc : Int), k ≤ xs.length ∧ i = .int .i64 k ∧ v = .int .i64 acc ∧ Hid (pv acc (xs.drop k) = pv 0 xs) ∧ Q w wr) (fun _ i _ => xs.length - (intOf i).toNat)
    case atStart => exact ⟨0, 0, Nat.zero_le _, rfl, rfl, Lib.hid rfl, Q.refl _⟩
    case round =>
      rename_i wr
      obtain ⟨k, acc, hk, rfl, rfl, hrem, q⟩ := hrel
      by_cases hlt : k < xs.length
      · obtain ⟨b, off, rfl, _, hc⟩ := (rd.q q).at_ hlt
        have hat := pv_at (acc := acc) hlt
        generalize hx : xs.getD k 0 = x at hat hc
        clear hx
        cases hb : inB x 0 255
        · have hres : Hid (pv 0 xs = -1) := Lib.hid (by rw [← hrem.out, hat, hb]; rfl)
          clear hat
          go_wp2_with (go_at_call 42; refine (c_l16Nimber _ _).mono ?_; rintro e w' ⟨rfl, rfl⟩)
          go_ret
          exact ⟨ret_int (by rw [fin.out, hres.out]), q⟩
        · have hrem' : Hid (pv (bits .xor .i64 acc x) (xs.drop (k + 1)) = pv 0 xs) := Lib.hid (by rw [← hrem.out, hat, hb]; rfl)
          clear hat
          go_wp2_with (go_at_call 42; refine (c_l16Nimber _ _).mono ?_; rintro e w' ⟨rfl, rfl⟩)
          go_roundw
          case rel => exact ⟨k + 1, _, by omega, by go_num, rfl, hrem', q⟩
          case measure => simp [intOf]; omega
      · obtain rfl : k = xs.length := by omega
        have hres : Hid (pv 0 xs = acc) := Lib.hid (by rw [← hrem.out, List.drop_length]; rfl)
        go_wp2_with fail
        go_ret
        exact ⟨ret_int (by rw [fin.out, hres.out]), q⟩
  · have fin : Hid (fPiles xs = -1) := Lib.hid (by unfold fPiles; rw [if_neg hn])
    go_enter Try.func21, Try.ntmps21
    go_wp2_with fail
    go_ret
    exact ⟨ret_int fin.out.symm, Q.refl _⟩

set_option maxHeartbeats 400000 in
theorem w_FnExactPilesValue (A : Option Addr) (n c : Nat) (xs : List Int) (w : World) (rd : RdV w A n (xs.map (Value.int .i64))) (_f : Fits .i64 xs) (_m : n ≤ maxLen) :
    Calls Try.prog 6 #[.slice A n c] w fun e w' => e = .returned (.bool true) ∧ Below w.heap.size w w' := by
  have rd : RdI w A n xs := rd
  obtain rfl := rd.len
  clear _f _m
  by_cases hn : xs.length ≤ 1048576
  · go_enter Try.func6, Try.ntmps6
    go_wp2_with fail
    refine (c_toIntS _ _ _ xs _ rd hn).mono ?_
    rintro e w1 ⟨g1, rfl, _, r1, b1⟩
    go_wp2_with fail
    refine (s_PilesValue _ _ xs _ r1).mono ?_
    rintro e w2 ⟨rfl, q2⟩
    have b2 := Below.next b1 q2.below
    go_wp2_with fail
    refine (c_toIntS _ _ _ xs _ (rd.below b2) hn).mono ?_
    rintro e w3 ⟨g3, rfl, _, r3, b3⟩
    have b3' := Below.next b2 b3
    go_wp2_with fail
    refine (c_PilesValue _ _ xs _ r3).mono ?_
    rintro e w4 ⟨rfl, q4⟩
    have b4 := Below.next b3' q4.below
    have r4 := r3.q q4
    go_wp2_with fail
    refine (c_toIntS _ _ _ xs _ (rd.below b4) hn).mono ?_
    rintro e w5 ⟨g5, rfl, _, r5, b5⟩
    have b5' := Below.next b4 b5
    have r5' := r4.below b5
    go_wp2_with fail
    refine (c_eqIntS_same _ _ _ _ _ xs _ r5' r5 hn).mono ?_
    rintro e w6 ⟨rfl, q6⟩
    have b6 := Below.next b5' q6.below
    go_wp2_with fail
    go_ret
    exact ⟨rfl, b6⟩
  · go_enter Try.func6, Try.ntmps6
    go_wp2_with fail
    go_ret
    exact ⟨rfl, Below.refl _ _⟩

/-- A winning move: its pile, what is left, and whether there is one. -/
def pm (x : Int) : Nat → List Int → Int × Int × Bool
  | _, [] => (0, 0, false)
  | k, y :: r => if bits .xor .i64 y x < y then ((k : Int), bits .xor .i64 y x, true) else pm x (k + 1) r
def fMove (xs : List Int) : Int × Int × Bool := if 0 ≤ fPiles xs then pm (fPiles xs) 0 xs else (0, 0, false)
theorem pm_at {x : Int} {xs : List Int} {k : Nat} (h : k < xs.length) :
    pm x k (xs.drop k) = if bits .xor .i64 (xs.getD k 0) x < xs.getD k 0 then ((k : Int), bits .xor .i64 (xs.getD k 0) x, true) else pm x (k + 1) (xs.drop (k + 1)) := by
  rw [List.drop_eq_getElem_cons h]
  simp [pm, h]
theorem pv_range : ∀ (xs : List Int) (acc : Int), 0 ≤ pv acc xs → ∀ x ∈ xs, 0 ≤ x ∧ x ≤ 255
  | [], _, _, _, h => by simp at h
  | y :: r, acc, h, x, hx => by
    unfold pv at h
    cases hy : inB y 0 255
    · rw [hy] at h; simp at h
    · rw [hy] at h
      simp only [if_true] at h
      rcases List.mem_cons.1 hx with rfl | hx
      · exact inB_true.1 hy
      · exact pv_range r _ h x hx
theorem piles_range {xs : List Int} (h : 0 ≤ fPiles xs) : xs.length ≤ 300 ∧ ∀ x ∈ xs, 0 ≤ x ∧ x ≤ 255 := by
  unfold fPiles at h
  split at h
  · rename_i hl
    exact ⟨hl, pv_range _ _ h⟩
  · omega
theorem pm_zero : ∀ (xs : List Int) (k : Nat), (∀ x ∈ xs, 0 ≤ x ∧ x ≤ 255) → pm 0 k xs = (0, 0, false)
  | [], _, _ => rfl
  | y :: r, k, h => by
    obtain ⟨h1, h2⟩ := h y (by simp)
    have e : bits .xor .i64 y 0 = y := by
      rw [xor_nat h1 (by omega) (by omega) (by omega)]; simp; omega
    unfold pm
    rw [e, if_neg (by omega)]
    exact pm_zero r (k + 1) fun x hx => h x (by simp [hx])
theorem fMove_no {xs : List Int} (h : fPiles xs ≤ 0) : fMove xs = (0, 0, false) := by
  unfold fMove
  by_cases h0 : 0 ≤ fPiles xs
  · rw [if_pos h0, show fPiles xs = 0 from by omega, pm_zero _ _ (piles_range h0).2]
  · rw [if_neg h0]
def moveVal (m : Int × Int × Bool) : Value := .tuple #[.int .i64 m.1, .int .i64 m.2.1, .bool m.2.2]
theorem ret_move {a b : Int} {c : Bool} {m : Int × Int × Bool} (h : m = (a, b, c)) : Ending.returned (.tuple #[.int .i64 a, .int .i64 b, .bool c]) = .returned (.tuple #[.int .i64 m.1, .int .i64 m.2.1, .bool m.2.2]) := by rw [h]
set_option maxHeartbeats 800000 in
theorem c_PileMove (A : Option Addr) (c : Nat) (xs : List Int) (w : World) (rd : RdI w A xs.length xs) :
    Calls Try.prog 32 #[.slice A xs.length c] w fun e w' => e = .returned (.tuple #[.int .i64 (fMove xs).1, .int .i64 (fMove xs).2.1, .bool (fMove xs).2.2]) ∧ Q w w' := by
  generalize hm : fMove xs = m
  have Hm := Lib.hid hm
  clear hm
  by_cases h0 : fPiles xs ≤ 0
  · have fin : Hid (m = (0, 0, false)) := Lib.hid (by rw [← Hm.out, fMove_no h0])
    go_enter Try.func32, Try.ntmps32
    go_wp2_with (go_at_call 23; refine (c_PilesValue _ _ xs _ rd).mono ?_; rintro e w1 ⟨rfl, q1⟩)
    go_ret3
    exact ⟨ret_move fin.out, q1⟩
  · have hl := (piles_range (xs := xs) (by omega)).1
    have fin : Hid (m = pm (fPiles xs) 0 xs) := Lib.hid (by rw [← Hm.out]; unfold fMove; rw [if_pos (by omega)])
    go_enter Try.func32, Try.ntmps32
    go_wp2_with fail
    refine (c_PilesValue _ _ xs _ rd).mono ?_
    rintro e w1 ⟨rfl, q1⟩
    generalize fPiles xs = x at *
    go_wp2_with fail
    go_loopw [14] (fun i wr => ∃ k : Nat, k ≤ xs.length ∧ i = .int .i64 k ∧ Hid (m = pm x k (xs.drop k)) ∧ Q w wr) (fun i _ => xs.length - (intOf i).toNat)
    case atStart => exact ⟨0, Nat.zero_le _, rfl, fin, q1⟩
    case round =>
      rename_i wr
      obtain ⟨k, hk, rfl, hrem, q⟩ := hrel
      clear fin q1
      by_cases hlt : k < xs.length
      · obtain ⟨b, off, rfl, _, hc⟩ := (rd.q q).at_ hlt
        have hat := pm_at (x := x) hlt
        rw [← hrem.out] at hat
        generalize hy : xs.getD k 0 = y at hat hc
        clear hy
        by_cases ht : bits .xor .i64 y x < y
        · rw [if_pos ht] at hat
          have Hat := Lib.hid hat
          clear hat
          go_wp2_with fail
          go_ret3
          exact ⟨ret_move Hat.out, q⟩
        · rw [if_neg ht] at hat
          have Hat := Lib.hid hat
          clear hat
          go_wp2_with fail
          go_roundw
          case rel => exact ⟨k + 1, by omega, by go_num, Hat, q⟩
          case measure => simp [intOf]; omega
      · obtain rfl : k = xs.length := by omega
        have fin : Hid (m = (0, 0, false)) := Lib.hid (by rw [hrem.out, List.drop_length]; rfl)
        go_wp2_with fail
        go_ret3
        exact ⟨ret_move fin.out, q⟩
set_option maxHeartbeats 800000 in
theorem s_PileMove (A : Option Addr) (c : Nat) (xs : List Int) (w : World) (rd : RdI w A xs.length xs) :
    Calls Try.prog 31 #[.slice A xs.length c] w fun e w' => e = .returned (.tuple #[.int .i64 (fMove xs).1, .int .i64 (fMove xs).2.1, .bool (fMove xs).2.2]) ∧ Q w w' := by
  generalize hm : fMove xs = m
  have Hm := Lib.hid hm
  clear hm
  by_cases h0 : fPiles xs < 0
  · have fin : Hid (m = (0, 0, false)) := Lib.hid (by rw [← Hm.out, fMove_no (by omega)])
    go_enter Try.func31, Try.ntmps31
    go_wp2_with (go_at_call 21; refine (s_PilesValue _ _ xs _ rd).mono ?_; rintro e w1 ⟨rfl, q1⟩)
    go_ret3
    exact ⟨ret_move fin.out, q1⟩
  · have hl := (piles_range (xs := xs) (by omega)).1
    have fin : Hid (m = pm (fPiles xs) 0 xs) := Lib.hid (by rw [← Hm.out]; unfold fMove; rw [if_pos (by omega)])
    go_enter Try.func31, Try.ntmps31
    go_wp2_with fail
    refine (s_PilesValue _ _ xs _ rd).mono ?_
    rintro e w1 ⟨rfl, q1⟩
    generalize fPiles xs = x at *
    go_wp2_with fail
    go_loopw [6] (fun i wr => ∃ k : Nat, k ≤ xs.length ∧ i = .int .i64 k ∧ Hid (m = pm x k (xs.drop k)) ∧ Q w wr) (fun i _ => xs.length - (intOf i).toNat)
    case atStart => exact ⟨0, Nat.zero_le _, rfl, fin, q1⟩
    case round =>
      rename_i wr
      obtain ⟨k, hk, rfl, hrem, q⟩ := hrel
      clear fin q1
      by_cases hlt : k < xs.length
      · obtain ⟨b, off, rfl, _, hc⟩ := (rd.q q).at_ hlt
        have hat := pm_at (x := x) hlt
        rw [← hrem.out] at hat
        generalize hy : xs.getD k 0 = y at hat hc
        clear hy
        have hk0 : (0 : Int) ≤ k := by omega
        have hk1 : (k : Int) < xs.length := by omega
        by_cases ht : bits .xor .i64 y x < y
        · rw [if_pos ht] at hat
          have Hat := Lib.hid hat
          clear hat
          go_wp2_with fail
          go_quiet (fail)
          go_wp2_with fail
          go_quiet (fail)
          go_wp2_with fail
          go_ret3
          exact ⟨ret_move Hat.out, ((q.drew _).drew _)⟩
        · rw [if_neg ht] at hat
          have Hat := Lib.hid hat
          clear hat
          go_wp2_with fail
          go_quiet (fail)
          go_wp2_with fail
          go_roundw
          case rel => exact ⟨k + 1, by omega, by go_num, Hat, q.drew _⟩
          case measure => simp [intOf]; omega
      · obtain rfl : k = xs.length := by omega
        have fin : Hid (m = (0, 0, false)) := Lib.hid (by rw [hrem.out, List.drop_length]; rfl)
        go_wp2_with fail
        go_ret3
        exact ⟨ret_move fin.out, q⟩

set_option maxHeartbeats 800000 in
theorem w_FnExactPileMove (A : Option Addr) (n c : Nat) (xs : List Int) (w : World) (rd : RdV w A n (xs.map (Value.int .i64))) (_f : Fits .i64 xs) (_m : n ≤ maxLen) :
    Calls Try.prog 10 #[.slice A n c] w fun e w' => e = .returned (.bool true) ∧ Below w.heap.size w w' := by
  have rd : RdI w A n xs := rd
  obtain rfl := rd.len
  clear _f _m
  by_cases hn : xs.length ≤ 1048576
  · go_enter Try.func10, Try.ntmps10
    go_wp2_with fail
    refine (c_toIntS _ _ _ xs _ rd hn).mono ?_
    rintro e w1 ⟨g1, rfl, _, r1, b1⟩
    go_wp2_with fail
    refine (s_PileMove _ _ xs _ r1).mono ?_
    rintro e w2 ⟨rfl, q2⟩
    have b2 := Below.next b1 q2.below
    go_wp2_with fail
    refine (c_toIntS _ _ _ xs _ (rd.below b2) hn).mono ?_
    rintro e w3 ⟨g3, rfl, _, r3, b3⟩
    have b3' := Below.next b2 b3
    go_wp2_with fail
    refine (c_PileMove _ _ xs _ r3).mono ?_
    rintro e w4 ⟨rfl, q4⟩
    have b4 := Below.next b3' q4.below
    have r4 := r3.q q4
    go_wp2_with fail
    refine (c_toIntS _ _ _ xs _ (rd.below b4) hn).mono ?_
    rintro e w5 ⟨g5, rfl, _, r5, b5⟩
    have b5' := Below.next b4 b5
    have r5' := r4.below b5
    go_wp2_with fail
    refine (c_eqIntS_same _ _ _ _ _ xs _ r5' r5 hn).mono ?_
    rintro e w6 ⟨rfl, q6⟩
    have b6 := Below.next b5' q6.below
    go_wp2_with fail
    go_ret
    exact ⟨rfl, b6⟩
  · go_enter Try.func10, Try.ntmps10
    go_wp2_with fail
    go_ret
    exact ⟨rfl, Below.refl _ _⟩
end Go.Proofs.Ytoaknbeekflnaaa
