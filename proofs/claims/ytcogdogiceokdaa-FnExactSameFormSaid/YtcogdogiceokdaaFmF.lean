/- SameForm: the program's, and the walk of its law. -/
import Derived.Test.YtcogdogiceokdaaFmE
namespace Go.Proofs.Ytcogdogiceokdaa
open Go.RowKit

set_option maxRecDepth 100000 in
set_option maxHeartbeats 1600000 in
theorem c_EqualFunc (A B : Option Addr) (c d : Nat) (es fs : List El) (n m : Nat) (w : World) (ra : RdE 0 2 w A n es) (rb : RdE 0 2 w B m fs) (hn : n ≤ 1048576) (hm : m ≤ 1048576) (hl : ∀ e ∈ es, ∀ r ∈ e.rs, r.xs.length ≤ 1048576) (hl2 : ∀ e ∈ fs, ∀ r ∈ e.rs, r.xs.length ≤ 1048576) :
    Calls Try.prog 33 #[.slice A n c, .slice B m d, .func (.func 34) #[] #[]] w fun e w' => e = .returned (.bool (decide (dats es = dats fs))) ∧ Below w.heap.size w w' := by
  have RA := Lib.hid ra
  have RB := Lib.hid rb
  have HL := Lib.hid hl
  have HL2 := Lib.hid hl2
  have HA : Hid ((dats es).length = n) := Lib.hid (by simpa using ra.len)
  have HB : Hid ((dats fs).length = m) := Lib.hid (by simpa using rb.len)
  clear ra rb hl hl2
  by_cases hnm : n = m
  · subst hnm
    obtain ⟨z, hz⟩ : ∃ z, Hid (decide (dats es = dats fs) = z) := ⟨_, Lib.hid rfl⟩
    rw [hz.out]
    go_enter Try.func33, Try.ntmps33
    go_wp2_with fail
    go_loopg [17] n (fun mm i wx => ∃ (k : Nat) (wz : World), wz = wx ∧ k ≤ n ∧ mm = n - k ∧ i = .int .i64 k ∧ Hid (Below w.heap.size w wz) ∧ Hid ((dats es).take k = (dats fs).take k))
    case atStart => exact ⟨0, _, rfl, Nat.zero_le _, rfl, rfl, Lib.hid (Below.refl _ _), Lib.hid rfl⟩
    case round =>
      obtain ⟨k, wz, rfl, hk, rfl, rfl, hb, hd⟩ := hrel
      by_cases hlt : k < n
      · have hltI : (k : Int) < (n : Int) := by omega
        have h0I : (0 : Int) ≤ (k : Int) := by omega
        obtain ⟨b, off, A1, c1, xs, A2, c2, ys, rfl, hbl, he1, r1, r2, hc0, hc1⟩ := (RA.out.below hb.out).node hlt
        obtain ⟨b', off', A3, c3, xs', A4, c4, ys', rfl, hbl', he2, r3, r4, hc2, hc3⟩ := (RB.out.below hb.out).node hlt
        have hm1 := HL.out _ (List.mem_of_getElem? he1)
        have hm2 := HL2.out _ (List.mem_of_getElem? he2)
        have hx1 : xs.length ≤ 1048576 := hm1 ⟨A1, c1, xs⟩ (by simp)
        have hx2 : ys.length ≤ 1048576 := hm1 ⟨A2, c2, ys⟩ (by simp)
        have hx3 : xs'.length ≤ 1048576 := hm2 ⟨A3, c3, xs'⟩ (by simp)
        have hx4 : ys'.length ≤ 1048576 := hm2 ⟨A4, c4, ys'⟩ (by simp)
        have D1 := Lib.hid (dat_node he1)
        have D2 := Lib.hid (dat_node he2)
        have HN := Lib.hid (fun W (hbb : Below wz.heap.size wz W) => c_nodesEq A1 A2 A3 A4 c1 c2 c3 c4 xs ys xs' ys' W (r1.below hbb) (r2.below hbb) (r3.below hbb) (r4.below hbb) hx1 hx2 hx3 hx4)
        have hne : Hid ((decide (xs = xs') && decide (ys = ys')) = false → z = false) := Lib.hid (fun h => by
          rw [← hz.out]
          refine decide_eq_false (fun e => ?_)
          have h1 := D1.out
          rw [e, D2.out] at h1
          simp at h1
          rw [h1.1, h1.2] at h
          simp at h)
        have hyes : Hid ((decide (xs = xs') && decide (ys = ys')) = true → (dats es).take (k + 1) = (dats fs).take (k + 1)) := Lib.hid (fun h => by
          simp only [Bool.and_eq_true, decide_eq_true_eq] at h
          exact take_dat D1.out D2.out hd.out (by rw [h.1, h.2]))
        obtain ⟨u, hu⟩ : ∃ u, (decide (xs = xs') && decide (ys = ys')) = u := ⟨_, rfl⟩
        rw [hu] at HN hne hyes
        clear he1 he2 hm1 hm2 r1 r2 r3 r4 hx1 hx2 hx3 hx4 hu D1 D2
        have nb1 : ¬ b' = wz.heap.size := by omega
        have nb2 : ¬ wz.heap.size = b' := by omega
        cases u
        · have hzf := hne.out rfl
          subst hzf
          clear hne hyes
          go_wp2_with fail
          refine (HN.out _ (by go_grown)).mono ?_
          rintro e w1 ⟨rfl, b1⟩
          have B1 : Hid (Below w.heap.size w w1) := Lib.hid (Below.next hb.out (Below.next (show Below wz.heap.size wz _ by go_grown) b1))
          clear b1 HN
          go_wp2_with fail
          go_ret
          exact ⟨rfl, B1.out⟩
        · have hd2 := Lib.hid (hyes.out rfl)
          clear hne hyes
          go_wp2_with fail
          refine (HN.out _ (by go_grown)).mono ?_
          rintro e w1 ⟨rfl, b1⟩
          have B1 : Hid (Below w.heap.size w w1) := Lib.hid (Below.next hb.out (Below.next (show Below wz.heap.size wz _ by go_grown) b1))
          clear b1 HN
          go_wp2_with fail
          go_roundg (n - (k + 1))
          case measure => omega
          case rel => exact ⟨k + 1, _, rfl, by omega, rfl, by go_num, B1, hd2⟩
      · obtain rfl : k = n := by omega
        have hzt : z = true := by
          rw [← hz.out]
          have := hd.out
          rw [List.take_of_length_le (by rw [HA.out]; exact Nat.le_refl _), List.take_of_length_le (by rw [HB.out]; exact Nat.le_refl _)] at this
          exact decide_eq_true this
        subst hzt
        go_wp2_with fail
        go_ret
        exact ⟨rfl, hb.out⟩
  · have fin : decide (dats es = dats fs) = false := decide_eq_false (fun h => hnm (by rw [← HA.out, ← HB.out, h]))
    rw [fin]
    have hnm2 : ¬ (n : Int) = m := by omega
    have e1 : ((n : Int) == m) = false := by simpa using hnm2
    have e2 : ((n : Int) != m) = true := by simpa using hnm2
    clear fin
    go_enter Try.func33, Try.ntmps33
    go_wp2_with fail
    go_ret
    exact ⟨rfl, Below.refl _ _⟩
set_option maxHeartbeats 800000 in
theorem c_SameForm (A B : Option Addr) (c d : Nat) (es fs : List El) (n m : Nat) (w : World) (ra : RdE 0 2 w A n es) (rb : RdE 0 2 w B m fs) (hn : n ≤ 1048576) (hm : m ≤ 1048576) (hl : ∀ e ∈ es, ∀ r ∈ e.rs, r.xs.length ≤ 1048576) (hl2 : ∀ e ∈ fs, ∀ r ∈ e.rs, r.xs.length ≤ 1048576) :
    Calls Try.prog 14 #[.agg #[.slice A n c], .agg #[.slice B m d]] w fun e w' => e = .returned (.bool (decide (dats es = dats fs))) ∧ Below w.heap.size w w' := by
  have HN := Lib.hid (fun W (hb : Below w.heap.size w W) => c_EqualFunc A B c d es fs n m W (ra.below hb) (rb.below hb) hn hm hl hl2)
  clear ra rb hl hl2
  go_enter Try.func14, Try.ntmps14
  go_wp2_with fail
  refine (HN.out _ (by go_grown)).mono ?_
  rintro e w1 ⟨rfl, b1⟩
  have B1 : Hid (Below w.heap.size w w1) := Lib.hid (Below.next (by go_grown) b1)
  clear b1 HN
  go_wp2_with fail
  go_ret
  exact ⟨rfl, B1.out⟩
end Go.Proofs.Ytcogdogiceokdaa
