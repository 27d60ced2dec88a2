/- The program's positions behind a move: slices.Sort, replaced. -/
import Derived.Test.YtoeacocijcammaaLmB
import Derived.Test.YtoeacocijcammaaLlG
import Derived.Test.YtoeacocijcammaaMvP
namespace Go.Proofs.Ytoeacocijcammaa
open Go.RowKit

theorem c_SortI (base : Nat) (A : Option Addr) (c : Nat) (zs : List Int) (w : World) (ho : OwnI w base A c zs) (hn : zs.length ≤ 1000000) :
    Calls Try.prog 88 #[.slice A zs.length c] w fun e w' => e = .returned (.tuple #[]) ∧ OwnI w' base A c (srt zs) ∧ w.grownBy w' (Value.slice A zs.length c).ownBlock := by
  rcases Nat.eq_zero_or_pos zs.length with h0 | h0
  · have hz : zs = [] := List.length_eq_zero_iff.1 h0
    subst hz
    refine (Try.slices_Sort_int_none A c w).mono fun e w' ⟨he, hw⟩ => ⟨he, ?_, ?_⟩
    · rw [hw]; simpa [srt] using ho
    · rw [hw]; exact grownBy_refl _ _
  · rcases ho.2 with ⟨_, he⟩ | ⟨g, cap, cur, he, _⟩
    · omega
    · cases he
      have hlen : (srt zs).length = zs.length := (srt_perm zs).length_eq
      have hH : Go.Sort.Holds (Value.int .i64) w g 0 zs.toArray := holds_own (d := zs.toArray) (by rw [List.toList_toArray]; exact ho)
      refine (Try.slices_Sort_int g 0 c zs w hH (ho.lt g rfl).2 (by omega)).mono fun e w' ⟨he, m, os, hw⟩ => ⟨he, ?_, ?_⟩
      · rw [hw]
        have := own_sortW (enc := Value.int .i64) (m := m) (os := os) (d := (srt zs).toArray) ho (by simp [hlen])
        rw [List.toList_toArray] at this
        unfold OwnI
        rw [hlen]; exact this
      · rw [hw]
        exact grownBy_sortW (enc := Value.int .i64) (m := m) (os := os) (d := (srt zs).toArray)
set_option maxRecDepth 100000 in
set_option maxHeartbeats 1600000 in
theorem c_replaced (g o n c : Nat) (hs : List Int) (k : Nat) (ad : Addr) (m d : Nat) (ms : List Int) (w : World) (rd : RdI w (some ⟨g, o, none⟩) n hs) (hcap : n ≤ c) (hk : k < n) (rm : RdI w (some ad) m ms) (hn : n ≤ 100000) (hm : m ≤ 100000) :
    Calls Try.prog 81 #[.slice (some ⟨g, o, none⟩) n c, .int .i64 k, .slice (some ad) m d] w fun e w' => ∃ A' c', e = .returned (.slice A' (aft hs k ms).length c') ∧ OwnI w' w.heap.size A' c' (aft hs k ms) ∧ Below w.heap.size w w' := by
  have hl : Hid (hs.length = n) := Lib.hid rd.len
  have hml : Hid (ms.length = m) := Lib.hid rm.len
  have k1 : (0 : Int) ≤ (k : Int) + 1 := by omega
  have k2 : (k : Int) + 1 ≤ n := by omega
  have k3 : k ≤ n := by omega
  have k4 : k ≤ c := by omega
  have k5 : ((k : Int) + 1).toNat = k + 1 := by omega
  have k6 : k + 1 ≤ n := by omega
  have k7 : (k : Int) ≤ (k : Int) + 1 := by omega
  have k8 : IntKind.i64.wrap ((k : Int) + 1) = (k : Int) + 1 := IntWalk.i64_in _ (by omega)
  -- the three parts
  obtain ⟨X, hX⟩ : ∃ X : Addr, X = if c = k + 1 then ⟨g, o, none⟩ else ⟨g, o + (k + 1), none⟩ := ⟨_, rfl⟩
  have r1 : RdI w (some ⟨g, o, none⟩) k (hs.take k) := by
    refine ⟨by simp [hl.out]; omega, fun h => ⟨g, o, rfl, fun i u hu => ?_⟩⟩
    have hi : i < k := by
      rcases Nat.lt_or_ge i k with h1 | h1
      · exact h1
      · rw [List.getElem?_eq_none (by simp; omega)] at hu; cases hu
    rw [List.map_take, List.getElem?_take_of_lt hi] at hu
    obtain ⟨b', off', e, _, hc⟩ := RdV.at_ rd (k := i) (by omega)
    cases e; exact hc i u hu
  have r2 : RdI w (some X) (n - (k + 1)) (hs.drop (k + 1)) := by
    refine ⟨by simp [hl.out], fun h => ?_⟩
    have hne : ¬ c = k + 1 := by omega
    rw [if_neg hne] at hX
    subst hX
    refine ⟨g, o + (k + 1), rfl, fun i u hu => ?_⟩
    rw [List.map_drop, List.getElem?_drop] at hu
    have hi : k + 1 + i < hs.length := by
      rcases Nat.lt_or_ge (k + 1 + i) hs.length with h1 | h1
      · exact h1
      · rw [List.getElem?_eq_none (by simpa using h1)] at hu; cases hu
    obtain ⟨b', off', e, _, hc⟩ := RdV.at_ rd (k := k + 1 + i) (by rw [← hl.out]; exact hi)
    cases e
    have := hc _ u hu
    rw [show o + (k + 1) + i = o + (k + 1 + i) by omega]; exact this
  let parts : List Row := [⟨some ⟨g, o, none⟩, c, hs.take k⟩, ⟨some X, c - (k + 1), hs.drop (k + 1)⟩, ⟨some ad, d, ms⟩]
  have e1 : (hs.take k).length = k := by simp [hl.out]; omega
  have e2 : (hs.drop (k + 1)).length = n - (k + 1) := by simp [hl.out]
  have hpv : parts.map Row.val = [.slice (some ⟨g, o, none⟩) k c, .slice (some X) (n - (k + 1)) (c - (k + 1)), .slice (some ad) m d] := by
    simp only [parts, List.map_cons, List.map_nil, Row.val, e1, e2, hml.out]
  have hfl : (nums parts).flatten = hs.take k ++ hs.drop (k + 1) ++ ms := by simp [parts]
  have hW : ∀ W, W = (w.alloc (.cells #[.slice (some ⟨g, o, none⟩) k c, .slice (some X) (n - (k + 1)) (c - (k + 1)), .slice (some ad) m d] 22)).drew →
      RdL W (some ⟨w.heap.size, 0, none⟩) 3 parts := by
    rintro W rfl
    have hb : Below w.heap.size w (w.alloc (.cells #[.slice (some ⟨g, o, none⟩) k c, .slice (some X) (n - (k + 1)) (c - (k + 1)), .slice (some ad) m d] 22)).drew := below_heap ((Below.refl _ _).alloc (Nat.le_refl _) _) ((Q.refl _).drew1)
    have hown := own_block (w := w.alloc (.cells #[.slice (some ⟨g, o, none⟩) k c, .slice (some X) (n - (k + 1)) (c - (k + 1)), .slice (some ad) m d] 22)) (base := 0) (n := 3) (heap_alloc_new w _) (Nat.zero_le _) rfl (by decide)
    refine ⟨?_, fun r hr => ?_⟩
    · rw [hpv]; exact RdV.of_own (own_heap hown rfl)
    · simp only [parts, List.mem_cons, List.not_mem_nil, or_false] at hr
      rcases hr with rfl | rfl | rfl
      · show RdI _ _ (hs.take k).length _; rw [e1]; exact r1.below hb
      · show RdI _ _ (hs.drop (k + 1)).length _; rw [e2]; exact r2.below hb
      · show RdI _ _ ms.length _; rw [hml.out]; exact rm.below hb
  have hC := c_Concat w.heap.size 3 3 parts _ (hW _ rfl) (fun r hr => by
    simp only [parts, List.mem_cons, List.not_mem_nil, or_false] at hr
    rcases hr with rfl | rfl | rfl <;> simp) (by decide) (by rw [hfl]; simp only [List.length_append, e1, e2, hml.out]; omega)
  rw [hfl] at hC
  have hlen : (hs.take k ++ hs.drop (k + 1) ++ ms).length ≤ 1000000 := by simp only [List.length_append, e1, e2, hml.out]; omega
  have haft : Hid (srt (hs.take k ++ hs.drop (k + 1) ++ ms) = aft hs k ms) := Lib.hid rfl
  have hlen2 : Hid ((hs.take k ++ hs.drop (k + 1) ++ ms).length = (aft hs k ms).length) := Lib.hid (aft_perm hs k ms).length_eq.symm
  have HC := Lib.hid hC
  have b0 : Below w.heap.size w (w.alloc (.cells #[.slice (some ⟨g, o, none⟩) k c, .slice (some X) (n - (k + 1)) (c - (k + 1)), .slice (some ad) m d] 22)).drew := below_heap ((Below.refl _ _).alloc (Nat.le_refl _) _) ((Q.refl _).drew1)
  have B0 := Lib.hid b0
  generalize hs.take k ++ hs.drop (k + 1) ++ ms = zs at *
  clear hC hW hpv hfl e1 e2 r1 r2 rd rm parts b0
  by_cases hkc : c = k + 1
  · rw [if_pos hkc] at hX
    subst hX
    subst hkc
    obtain rfl : n = k + 1 := by omega
    simp only [Nat.sub_self] at HC B0
    go_enter Try.func81, Try.ntmps81
    go_wp2_with fail
    go_still_tail 8, (by kernel_rfl)
    go_wp2_with fail
    refine HC.out.mono ?_
    rintro e w1 ⟨A', c', rfl, o1, b1⟩
    have HS := c_SortI _ A' c' zs w1 o1 hlen
    have B1 := Lib.hid (B0.out.trans (b1.mono (by simp)))
    have O1 := Lib.hid o1
    clear o1 b1
    go_wp2_with fail
    refine HS.mono ?_
    rintro e w2 ⟨rfl, o2, g2⟩
    have O2 := Lib.hid o2
    have B2 : Hid (Below w.heap.size w w2) := Lib.hid (B1.out.grown g2 B1.out.size (fun q hq => Nat.le_trans (by simp) (O1.out.lt q hq).1))
    rw [haft.out] at O2
    clear o2 g2 HS
    go_wp2_with fail
    go_ret
    exact ⟨A', c', by rw [hlen2.out]; rfl, own_low O2.out (by simp), B2.out⟩
  · rw [if_neg hkc] at hX
    subst hX
    go_enter Try.func81, Try.ntmps81
    go_wp2_with fail
    go_still_tail 8, (by kernel_rfl)
    go_wp2_with fail
    refine HC.out.mono ?_
    rintro e w1 ⟨A', c', rfl, o1, b1⟩
    have HS := c_SortI _ A' c' zs w1 o1 hlen
    have B1 := Lib.hid (B0.out.trans (b1.mono (by simp)))
    have O1 := Lib.hid o1
    clear o1 b1
    go_wp2_with fail
    refine HS.mono ?_
    rintro e w2 ⟨rfl, o2, g2⟩
    have O2 := Lib.hid o2
    have B2 : Hid (Below w.heap.size w w2) := Lib.hid (B1.out.grown g2 B1.out.size (fun q hq => Nat.le_trans (by simp) (O1.out.lt q hq).1))
    rw [haft.out] at O2
    clear o2 g2 HS
    go_wp2_with fail
    go_ret
    exact ⟨A', c', by rw [hlen2.out]; rfl, own_low O2.out (by simp), B2.out⟩
end Go.Proofs.Ytoeacocijcammaa
