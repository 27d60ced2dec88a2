/- Winning moves: the walk of the law FnWinningHeaps. -/
import Derived.Test.YtoeacocijcammaaLpD
import Derived.Test.YtoeacocijcammaaLmF
import Derived.Test.YtoeacocijcammaaMvP
namespace Go.Proofs.Ytoeacocijcammaa
open Go.RowKit

theorem risB_of_up : ∀ {hs : List Int} {l : Int}, Up hs → (∀ x ∈ hs, l ≤ x ∧ x ≤ 300) → risB l hs = true
  | [], _, _, _ => rfl
  | a :: t, l, hu, h => by
    have h1 := h a (by simp)
    have h2 := risB_of_up (hs := t) (l := a) (List.pairwise_cons.1 hu).2 (fun x hx => ⟨(List.pairwise_cons.1 hu).1 x hx, (h x (by simp [hx])).2⟩)
    simp [risB, h1.1, h1.2, h2]
theorem goodH_pos {hs : List Int} (h : Pos hs) (hl : hs.length ≤ 20) : goodH hs = true := by
  rw [goodH_in hl]
  exact risB_of_up h.1 (fun x hx => by have := h.2 x hx; omega)
theorem win_pos {xs F p : List Int} (hp : Pos F) (h : p ∈ win xs F) : Pos p ∧ p.sum < F.sum := by
  obtain ⟨i, m, hi, hm, e⟩ := cand_facts (rch_mem.1 (List.mem_filter.1 h).1)
  exact after_pos hp hi hm e
theorem OwnL.rdL {w : World} {base c : Nat} {A : Option Addr} {rs : List Row} (h : OwnL w base A c rs) : RdL w A rs.length rs := ⟨RdV.of_own h.outer, fun r hr => (h.rows r hr).rd⟩
set_option maxRecDepth 100000 in
set_option maxHeartbeats 6400000 in
theorem w_FnWinningHeaps_of (bnd : Bnd) (A : Option Addr) (n c : Nat) (bs : List Int) (w : World) (rd : RdV w A n (bs.map (Value.int .u8))) (f : Fits .u8 bs) (m : n ≤ maxLen) :
    Calls Try.prog 8 #[.slice A n c] w fun e w' => e = .returned (.bool true) ∧ Below w.heap.size w w' := by
  have HB := Lib.hid (c_rBig A n c w m)
  by_cases hn : n ≤ 65536
  · have hd : decide (65536 < (n : Int)) = false := decide_eq_false (by omega)
    rw [hd] at HB
    have HD := Lib.hid (c_DrawWinningHeaps A n c bs w ⟨rd, f, by omega⟩)
    have Bn := Lib.hid bnd
    clear rd f hd bnd
    go_enter Try.func8, Try.ntmps8
    go_wp2_with (first | (go_at_call 18; refine HB.out.mono ?_; rintro e w' ⟨rfl, rfl⟩))
    refine HD.out.mono ?_
    rintro e w1 ⟨B, c1, xs, gb, c2, hs, rfl, rx, rh, lx, lh, lc, b1⟩
    have RX := Lib.hid rx
    have RH := Lib.hid rh
    have B1 := Lib.hid b1
    have HC := Lib.hid (c_WinningHeaps Bn.out B (some ⟨gb, 0, none⟩) c1 c2 xs hs w1 rx rh)
    clear rx rh b1 HD HB
    go_wp2_with fail
    refine HC.out.mono ?_
    rintro e w2 ⟨A2, c2', rs, rfl, o2, e2, b2⟩
    have O2 := Lib.hid o2
    have E2 := Lib.hid e2
    have B2 := Lib.hid b2
    have HS := Lib.hid (s_WinningHeaps Bn.out B c1 gb 0 c2 xs hs w2 (RX.out.below b2) (RH.out.below b2) lc (by omega) (by omega))
    clear o2 e2 b2 HC
    go_wp2_with fail
    refine HS.out.mono ?_
    rintro e w3 ⟨A3, c3, ss, rfl, r3, e3, b3⟩
    have R3 := Lib.hid r3
    have E3 := Lib.hid e3
    have B3 := Lib.hid b3
    have B23 := Lib.hid (Below.next B2.out b3)
    have HV := Lib.hid (c_HeapsValue Bn.out B (some ⟨gb, 0, none⟩) c1 c2 xs hs w3 (RX.out.below B23.out) (RH.out.below B23.out))
    clear r3 e3 b3 HS
    go_wp2_with fail
    refine HV.out.mono ?_
    rintro e w4 ⟨rfl, b4⟩
    have B4 := Lib.hid b4
    have hsm := whC_small xs hs
    have R2 : Hid (RdL w4 A2 (whC xs hs).1.length rs) := Lib.hid (by
      have := (O2.out.below (Below.next B3.out b4)).rdL
      rwa [show rs.length = (whC xs hs).1.length by rw [← E2.out]; simp] at this)
    have HL := Lib.hid (c_rListsT A2 A3 c2' c3 (whC xs hs).1 rs ss w4 R2.out (RdL.below R3.out b4) E2.out E3.out (by have := hsm.1; omega) (fun p hp => by have := hsm.2.1 p hp; omega))
    have B14 := Lib.hid (Below.next B23.out b4)
    have BW := Lib.hid (Below.next B1.out (Below.next B23.out b4))
    clear b4 HV hsm R3 E3 B2 B3 B23
    by_cases hg : goodC xs && goodH hs
    · simp only [Bool.and_eq_true] at hg
      have e1 := whC_in hg.1 hg.2
      have e2 := hsV_in hg.1 hg.2
      rw [e1] at R2 HL E2
      rw [e1, e2]
      simp only at R2 HL E2 ⊢
      obtain ⟨hl20, hup, hrng, hsum⟩ := goodH_facts hg.2
      have HposF := Lib.hid (fil_pos hup (fun x hx => (hrng x hx).2))
      have hsF : Hid ((fil hs).sum = hs.sum) := Lib.hid (fil_sum hup (fun x hx => (hrng x hx).1))
      have hX : xorF xs 0 (fil hs) = xorF xs 0 hs := xorF_fil xs (fun x hx => (hrng x hx).1)
      have hwin : Hid (win xs (fil hs) = [] ↔ xorF xs 0 hs = 0) := Lib.hid (by rw [← hX]; exact win_nil)
      have hrng' := Lib.hid (fun x (hx : x ∈ hs) => (⟨(hrng x hx).1, by have := (hrng x hx).2; omega⟩ : 0 ≤ x ∧ x ≤ 100000))
      have hWl : (win xs (fil hs)).length ≤ 1000000 := by have := (whC_small xs hs).1; rw [e1] at this; exact this
      have Hg1 := Lib.hid hg.1
      have hfacts : Hid (∀ p ∈ win xs (fil hs), Pos p ∧ p.sum < hs.sum ∧ xorF xs 0 p = 0) := Lib.hid (fun p hp => by
        obtain ⟨h1, h2⟩ := win_pos HposF.out hp
        exact ⟨h1, by rw [← hsF.out]; exact h2, win_zero hp⟩)
      obtain ⟨W, hW⟩ : ∃ W, win xs (fil hs) = W := ⟨_, rfl⟩
      obtain ⟨X, hXX⟩ : ∃ X, xorF xs 0 hs = X := ⟨_, rfl⟩
      rw [hW] at hwin hfacts R2 HL E2 hWl ⊢
      rw [hXX] at hwin ⊢
      clear hup hrng hX hW hXX hg e1 e2 hsF HposF O2
      go_wp2_with fail
      refine HL.out.mono ?_
      rintro e w5 ⟨rfl, q⟩
      have BW5 := Lib.hid (Below.next BW.out q.below)
      have B15 := Lib.hid (Below.next B14.out q.below)
      have R5 := Lib.hid (RdL.below R2.out q.below)
      clear q R2 HL BW B14
      go_wp2_with fail
      go_loopg [11] W.length (fun mm i wx => ∃ (k : Nat) (wz : World), wz = wx ∧ k ≤ W.length ∧ mm = W.length - k ∧ i = .int .i64 k ∧ Hid (Below w5.heap.size w5 wz))
      case atStart => exact ⟨0, _, rfl, Nat.zero_le _, rfl, rfl, Lib.hid (Below.refl _ _)⟩
      case round =>
        obtain ⟨k, wz, rfl, hk, rfl, rfl, bz⟩ := hrel
        by_cases hlt : k < W.length
        · have hltI : (k : Int) < (W.length : Int) := by omega
          obtain ⟨b, off, rfl, _, r, _, _, e1, r1, hcx⟩ := (RdL.below R5.out bz.out).at_ hlt
          have hp := hfacts.out r.xs (by rw [← e1, E2.out]; simp [hlt])
          clear e1
          obtain ⟨rA, rc, p⟩ := r
          simp only [Row.rd] at hp r1 hcx
          have hpl := hp.1.len
          have hps := hp.2.1
          have hpl2 : p.length ≤ 6000 := by omega
          by_cases h20 : 20 < p.length
          · have h20I : (20 : Int) < (p.length : Int) := by omega
            clear r1 hp
            go_wp2_with fail
            go_roundg (W.length - (k + 1))
            case measure => omega
            case rel => exact ⟨k + 1, _, rfl, by omega, rfl, by go_num, bz⟩
          · have h20I : ¬ (20 : Int) < (p.length : Int) := by omega
            have B1z := Lib.hid (Below.next B15.out bz.out)
            have HV := Lib.hid (c_HeapsValue Bn.out B rA c1 rc xs p wz (RX.out.below B1z.out) r1)
            have R1 := Lib.hid r1
            have hv : hsV xs p = (0, true) := by rw [hsV_in Hg1.out (goodH_pos hp.1 (by omega)), hp.2.2]; rfl
            rw [hv] at HV
            have hpr := Lib.hid (fun x (hx : x ∈ p) => (⟨by have := (hp.1.2 x hx).1; omega, by have := (hp.1.2 x hx).2; omega⟩ : 0 ≤ x ∧ x ≤ 100000))
            clear r1 hp hv
            go_wp2_with fail
            refine HV.out.mono ?_
            rintro e w6 ⟨rfl, b6⟩
            have B6 := Lib.hid (Below.next bz.out b6)
            have HS1 := Lib.hid (c_rSum rA rc p w6 (R1.out.below b6) (by omega) hpr.out)
            have HS2 := Lib.hid (c_rSum (some ⟨gb, 0, none⟩) c2 hs w6 (RH.out.below (Below.next B1z.out b6)) (by omega) hrng'.out)
            have hcx6 : w6.cell? ⟨b, off + k, none⟩ = some (.slice rA p.length rc) := (b6.cell (cell_lt hcx)).trans hcx
            obtain ⟨s1, hs1⟩ : ∃ s, p.sum = s := ⟨_, rfl⟩
            obtain ⟨s2, hs2⟩ : ∃ s, hs.sum = s := ⟨_, rfl⟩
            rw [hs1] at HS1
            rw [hs2] at HS2
            have hge : s1 < s2 := by omega
            have hge2 : ¬ s2 ≤ s1 := by omega
            clear b6 HV hcx hpr hs1 hs2 hps
            go_wp2_with fail
            refine HS1.out.mono ?_
            rintro e w' ⟨rfl, rfl⟩
            clear HS1
            go_wp2_with fail
            refine HS2.out.mono ?_
            rintro e w' ⟨rfl, rfl⟩
            clear HS2
            go_wp2_with fail
            go_roundg (W.length - (k + 1))
            case measure => omega
            case rel => exact ⟨k + 1, _, rfl, by omega, rfl, by go_num, B6⟩
        · obtain rfl : k = W.length := by omega
          have Bf := Lib.hid (Below.next BW5.out bz.out)
          by_cases h0 : X = 0
          · have hW0 : W = [] := hwin.out.2 h0
            subst hW0
            subst h0
            clear R5 E2
            go_wp2_with fail
            go_ret
            exact ⟨rfl, Bf.out⟩
          · have hW0 : 0 < W.length := by
              rcases Nat.eq_zero_or_pos W.length with h | h
              · exact absurd (hwin.out.1 (List.length_eq_zero_iff.1 h)) h0
              · exact h
            have hW1 : (0 : Int) < (W.length : Int) := by omega
            have hX1 : ((X : Int) == 0) = false := by simpa using h0
            have hX2 : ((X : Int) != 0) = true := by simpa using h0
            go_wp2_with fail
            go_ret
            exact ⟨rfl, Bf.out⟩
    · have h1 : whC xs hs = ([], false) := by unfold whC; rw [if_neg hg]
      have h2 : hsV xs hs = (0, false) := by unfold hsV; rw [if_neg hg]
      rw [h1] at R2 HL E2
      rw [h1, h2]
      simp only at R2 HL E2 ⊢
      clear h1 h2 hg
      go_wp2_with fail
      refine HL.out.mono ?_
      rintro e w5 ⟨rfl, q⟩
      have Bq := Lib.hid (Below.next BW.out q.below)
      clear q
      go_wp2_with fail
      go_ret
      exact ⟨rfl, Bq.out⟩
  · have hd : decide (65536 < (n : Int)) = true := decide_eq_true (by omega)
    rw [hd] at HB
    clear rd f hd
    go_enter Try.func8, Try.ntmps8
    go_wp2_with (go_at_call 18; refine HB.out.mono ?_; rintro e w' ⟨rfl, rfl⟩)
    go_ret
    exact ⟨rfl, Below.refl _ _⟩
end Go.Proofs.Ytoeacocijcammaa
