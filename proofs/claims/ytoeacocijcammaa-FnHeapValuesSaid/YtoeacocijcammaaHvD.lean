/- Values of heaps: HeapsValue of both, under a bound of the values. -/
import Derived.Test.YtoeacocijcammaaHvC
namespace Go.Proofs.Ytoeacocijcammaa
open Go.RowKit

def risB (l : Int) : List Int → Bool
  | [] => true
  | n :: t => decide (l ≤ n) && decide (n ≤ 300) && risB n t
def goodH (hs : List Int) : Bool := decide (hs.length ≤ 20) && risB 0 hs
theorem goodH_long {hs : List Int} (h : ¬ hs.length ≤ 20) : goodH hs = false := by simp [goodH, h]
theorem goodH_in {hs : List Int} (h : hs.length ≤ 20) : goodH hs = risB 0 hs := by simp [goodH, h]
theorem risB_all : ∀ {hs : List Int} {l : Int}, risB l hs = true → ∀ x ∈ hs, l ≤ x ∧ x ≤ 300
  | [], _, _, x, hx => by simp at hx
  | n :: t, l, h, x, hx => by
    simp [risB] at h
    rcases List.mem_cons.1 hx with rfl | hx
    · exact h.1
    · have := risB_all h.2 x hx; omega
theorem risB_last : ∀ {hs : List Int} {l : Int}, risB l hs = true → ∀ x ∈ hs, x ≤ hs.getD (hs.length - 1) 0
  | [], _, _, x, hx => by simp at hx
  | [n], l, h, x, hx => by simp at hx; subst hx; simp
  | n :: m :: t, l, h, x, hx => by
    simp only [risB, Bool.and_eq_true, decide_eq_true_iff] at h
    have h2 : risB n (m :: t) = true := by simp [risB, h]
    have e : (n :: m :: t).getD ((n :: m :: t).length - 1) 0 = (m :: t).getD ((m :: t).length - 1) 0 := by simp
    rw [e]
    rcases List.mem_cons.1 hx with rfl | hx
    · have h3 := risB_last h2 m (by simp)
      omega
    · exact risB_last h2 x hx
theorem mem_getD {hs : List Int} {k : Nat} (h : k < hs.length) : hs.getD k 0 ∈ hs := by simp [h]
theorem drop_cons {hs : List Int} {k : Nat} (h : k < hs.length) : hs.drop k = hs.getD k 0 :: hs.drop (k + 1) := by
  rw [List.drop_eq_getElem_cons h]; simp [h]

set_option maxHeartbeats 800000 in
theorem c_goodHeaps (A : Option Addr) (c : Nat) (hs : List Int) (w : World) (rd : RdI w A hs.length hs) :
    Calls Try.prog 56 #[.slice A hs.length c] w fun e w' => e = .returned (.bool (goodH hs)) ∧ w = w' := by
  obtain ⟨r, hr⟩ : ∃ r, Hid (goodH hs = r) := ⟨_, Lib.hid rfl⟩
  rw [hr.out]
  by_cases hn : hs.length ≤ 20
  · have hin : Hid (r = risB 0 hs) := Lib.hid (by rw [← hr.out, goodH_in hn])
    go_enter Try.func56, Try.ntmps56
    go_wp2_with fail
    go_loop [3, 11] (fun l i => ∃ (k : Nat) (l' : Int), k ≤ hs.length ∧ i = .int .i64 k ∧ l = .int .i64 l' ∧ Hid (r = risB l' (hs.drop k))) (fun _ i => hs.length - (intOf i).toNat)
    case atStart => exact ⟨0, 0, Nat.zero_le _, rfl, rfl, hin⟩
    case round =>
      obtain ⟨k, l', hk, rfl, rfl, hrem⟩ := hrel
      by_cases hlt : k < hs.length
      · obtain ⟨b, off, rfl, _, hcx⟩ := rd.at_ hlt
        have hd : Hid (hs.drop k = hs.getD k 0 :: hs.drop (k + 1)) := Lib.hid (drop_cons hlt)
        generalize hs.getD k 0 = y at *
        by_cases h1 : y < l'
        · have hres : Hid (false = r) := Lib.hid (by rw [hrem.out, hd.out, risB, decide_eq_false (by omega)]; simp)
          go_wp2_with fail
          go_ret
          exact ⟨ret_bool hres.out, rfl⟩
        · by_cases h2 : 300 < y
          · have hres : Hid (false = r) := Lib.hid (by rw [hrem.out, hd.out, risB, decide_eq_false (p := y ≤ 300) (by omega)]; simp)
            go_wp2_with fail
            go_ret
            exact ⟨ret_bool hres.out, rfl⟩
          · have hrem' : Hid (r = risB y (hs.drop (k + 1))) := Lib.hid (by rw [hrem.out, hd.out, risB, decide_eq_true (p := y ≤ 300) (by omega), decide_eq_true (p := l' ≤ y) (by omega)]; simp)
            go_wp2_with fail
            go_round
            case rel => exact ⟨k + 1, y, by omega, by go_num, rfl, hrem'⟩
            case measure => simp [intOf]; omega
      · have hres : Hid (true = r) := Lib.hid (by rw [hrem.out, List.drop_of_length_le (by omega)]; rfl)
        go_wp2_with fail
        go_ret
        exact ⟨ret_bool hres.out, rfl⟩
  · have hres : Hid (false = r) := Lib.hid (by rw [← hr.out, goodH_long hn])
    have hn' : (20 : Int) < (hs.length : Int) := by omega
    go_enter Try.func56, Try.ntmps56
    go_wp2_with fail
    go_ret
    exact ⟨ret_bool hres.out, rfl⟩

theorem c_l1In_at (y : Int) (b : Bool) (hb : inB y 0 300 = b) (n : Nat) (w : World) : Calls Try.prog 40 #[.int .i64 y, .int .i64 0, .int .i64 300] (w.drewN n) fun e w' => e = .returned (.bool b) ∧ ∃ m, w' = w.drewN m :=
  Q.quiet_same (by rw [← hb]; exact c_l1In y 0 300 _)
set_option maxHeartbeats 1600000 in
theorem s_l17Heaps (A : Option Addr) (c : Nat) (hs : List Int) (w : World) (rd : RdI w A hs.length hs) (hl : hs.length ≤ 1048576) :
    Calls Try.prog 51 #[.slice A hs.length c] w fun e w' => e = .returned (.bool (goodH hs)) ∧ Q w w' := by
  obtain ⟨r, hr⟩ : ∃ r, Hid (goodH hs = r) := ⟨_, Lib.hid rfl⟩
  rw [hr.out]
  by_cases hn : hs.length ≤ 20
  · have hin : Hid (r = risB 0 hs) := Lib.hid (by rw [← hr.out, goodH_in hn])
    go_enter Try.func51, Try.ntmps51
    go_wp2_with fail
    go_loopw [3] (fun i wr => ∃ (k : Nat) (l : Int), k ≤ hs.length ∧ i = .int .i64 k ∧ 0 ≤ l ∧ (k = 0 → l = 0) ∧ (0 < k → hs.getD (k - 1) 0 = l) ∧ Hid (r = risB l (hs.drop k)) ∧ Q w wr) (fun i _ => hs.length - (intOf i).toNat)
    case atStart => exact ⟨0, 0, Nat.zero_le _, rfl, by omega, fun _ => rfl, fun h => absurd h (by omega), hin, Q.refl _⟩
    case round =>
      rename_i wr
      obtain ⟨k, l, hk, rfl, l0, lz, lp, hrem, q⟩ := hrel
      by_cases hlt : k < hs.length
      · have rd1 := rd.q q
        obtain ⟨b, off, rfl, _, hcx⟩ := rd1.at_ hlt
        have hd : Hid (hs.drop k = hs.getD k 0 :: hs.drop (k + 1)) := Lib.hid (drop_cons hlt)
        obtain ⟨y, hy⟩ : ∃ y, Hid (hs.getD k 0 = y) := ⟨_, Lib.hid rfl⟩
        rw [hy.out] at hcx hd
        have hk0 : (0 : Int) ≤ k := by omega
        have hk1 : (k : Int) < hs.length := by omega
        cases hb : inB y 0 300
        · have hres : Hid (false = r) := Lib.hid (by
            rcases inB_false.1 hb with h | h
            · rw [hrem.out, hd.out, risB, decide_eq_false (by omega)]; simp
            · rw [hrem.out, hd.out, risB, decide_eq_false (p := y ≤ 300) (by omega)]; simp)
          have HB := Lib.hid (c_l1In_at y false hb)
          clear hb lz lp rd rd1
          go_wp2_with fail
          go_quiet ((go_at_call 40; exact HB.out _ _))
          go_wp2_with fail
          go_ret
          exact ⟨ret_bool hres.out, q.drew _⟩
        · have hyb := inB_true.1 hb
          have HB := Lib.hid (c_l1In_at y true hb)
          clear hb
          by_cases hkz : 0 < k
          · obtain ⟨b', off', e, _, hcp⟩ := rd1.at_ (k := k - 1) (by omega)
            injection e with e
            injection e with e1 e2
            subst e1 e2
            rw [lp hkz] at hcp
            clear lz lp rd rd1
            have hw : IntKind.i64.wrap ((k : Int) - 1) = (k : Int) - 1 := IntWalk.i64_in _ (by omega)
            have ht : ((k : Int) - 1).toNat = k - 1 := by omega
            have hb0 : (0 : Int) ≤ (k : Int) - 1 := by omega
            have hb1 : (k : Int) - 1 < hs.length := by omega
            have hb2 : (1 : Int) ≤ (k : Int) := by omega
            have hb3 : (0 : Int) < (k : Int) := by omega
            by_cases h1 : y < l
            · have hres : Hid (false = r) := Lib.hid (by rw [hrem.out, hd.out, risB, decide_eq_false (by omega)]; simp)
              go_wp2_with fail
              go_quiet ((go_at_call 40; exact HB.out _ _))
              clear hw ht
              go_wp2_with fail
              go_ret
              exact ⟨ret_bool hres.out, q.drew _⟩
            · have hrem' : Hid (r = risB y (hs.drop (k + 1))) := Lib.hid (by rw [hrem.out, hd.out, risB, decide_eq_true (p := y ≤ 300) (by omega), decide_eq_true (p := l ≤ y) (by omega)]; simp)
              have h1' : decide (y < l) = false := by simpa using h1
              go_wp2_with fail
              go_quiet ((go_at_call 40; exact HB.out _ _))
              clear hw ht
              go_wp2_with fail
              go_roundw
              case rel => exact ⟨k + 1, y, by omega, by go_num, hyb.1, fun h => absurd h (by omega), fun _ => hy.out, hrem', q.drew _⟩
              case measure => simp [intOf]; omega
          · have hl0 := lz (by omega)
            subst hl0
            clear lz lp rd rd1
            have hrem' : Hid (r = risB y (hs.drop (k + 1))) := Lib.hid (by rw [hrem.out, hd.out, risB, decide_eq_true (p := y ≤ 300) (by omega), decide_eq_true (p := 0 ≤ y) (by omega)]; simp)
            have hz : decide ((0 : Int) < (k : Int)) = false := by rw [decide_eq_false_iff_not]; omega
            have hz2 : decide (0 < k) = false := by rw [decide_eq_false_iff_not]; omega
            have Hkz := Lib.hid hkz
            clear hkz
            go_wp2_with fail
            go_quiet ((go_at_call 40; exact HB.out _ _))
            go_wp2_with fail
            go_roundw
            case rel => exact ⟨k + 1, y, by omega, by go_num, hyb.1, fun h => absurd h (by omega), fun _ => hy.out, hrem', q.drew _⟩
            case measure => simp [intOf]; omega
      · have hres : Hid (true = r) := Lib.hid (by rw [hrem.out, List.drop_of_length_le (by omega)]; rfl)
        clear lz lp
        go_wp2_with fail
        go_ret
        exact ⟨ret_bool hres.out, q⟩
  · have hres : Hid (false = r) := Lib.hid (by rw [← hr.out, goodH_long hn])
    have hn' : (20 : Int) < (hs.length : Int) := by omega
    go_enter Try.func51, Try.ntmps51
    go_wp2_with fail
    go_ret
    exact ⟨ret_bool hres.out, Q.refl _⟩
end Go.Proofs.Ytoeacocijcammaa
