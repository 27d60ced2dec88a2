/- The play of heaps: the walk of the law FnHeapPlay. -/
import Derived.Test.YtoeacocijcammaaLpF
import Derived.Test.YtoeacocijcammaaLnE
namespace Go.Proofs.Ytoeacocijcammaa
open Go.RowKit

set_option maxRecDepth 100000 in
set_option maxHeartbeats 6400000 in
theorem w_FnHeapPlay_of (bnd : Bnd) (A : Option Addr) (n c : Nat) (bs : List Int) (w : World) (rd : RdV w A n (bs.map (Value.int .u8))) (f : Fits .u8 bs) (m : n ≤ maxLen) :
    Calls Try.prog 9 #[.slice A n c] w fun e w' => e = .returned (.bool true) ∧ Below w.heap.size w w' := by
  have HB := Lib.hid (c_rBig A n c w m)
  by_cases hn : n ≤ 65536
  · have hd : decide (65536 < (n : Int)) = false := decide_eq_false (by omega)
    rw [hd] at HB
    have HD := Lib.hid (c_DrawPlayHeaps A n c bs w ⟨rd, f, by omega⟩)
    have Bn := Lib.hid bnd
    clear rd f hd bnd
    go_enter Try.func9, Try.ntmps9
    go_wp2_with (first | (go_at_call 18; refine HB.out.mono ?_; rintro e w' ⟨rfl, rfl⟩))
    refine HD.out.mono ?_
    rintro e w1 ⟨B, c1, xs, gb, c2, hs, rfl, rx, rh, lx, lh, lc, b1⟩
    have RX := Lib.hid rx
    have RH := Lib.hid rh
    have B1 := Lib.hid b1
    have HC := Lib.hid (c_PlayHeaps Bn.out B (some ⟨gb, 0, none⟩) c1 c2 xs hs w1 rx rh)
    clear rx rh b1 HD HB
    go_wp2_with fail
    refine HC.out.mono ?_
    rintro e w2 ⟨A2, c2', rs, rfl, o2, e2, b2⟩
    have O2 := Lib.hid o2
    have E2 := Lib.hid e2
    have B2 := Lib.hid b2
    have HS := Lib.hid (s_PlayHeaps Bn.out B c1 (some ⟨gb, 0, none⟩) c2 xs hs w2 (RX.out.below b2) (RH.out.below b2) (by omega) (by omega))
    clear o2 e2 b2 HC
    go_wp2_with fail
    refine HS.out.mono ?_
    rintro e w3 ⟨A3, c3, ss, rfl, r3, e3, b3⟩
    have R3 := Lib.hid r3
    have E3 := Lib.hid e3
    have B3 := Lib.hid b3
    have B23 := Lib.hid (Below.next B2.out b3)
    have HV := Lib.hid (fun W (hb : Below w3.heap.size w3 W) => c_HeapsValue Bn.out B (some ⟨gb, 0, none⟩) c1 c2 xs hs W (RX.out.below (Below.next B23.out hb)) (RH.out.below (Below.next B23.out hb)))
    have hsm := phC_small xs hs
    have R2 : Hid (RdL w3 A2 (phC xs hs).1.length rs) := Lib.hid (by
      have := (O2.out.below b3).rdL
      rwa [show rs.length = (phC xs hs).1.length by rw [← E2.out]; simp] at this)
    have HL := Lib.hid (c_rListsT A2 A3 c2' c3 (phC xs hs).1 rs ss w3 R2.out r3 E2.out e3 (by have := hsm.1; omega) (fun p hp => by have := hsm.2.1 p hp; omega))
    have BW := Lib.hid (Below.next B1.out B23.out)
    clear r3 e3 b3 HS hsm R3 E3 B2 B3
    by_cases hg : goodC xs && goodH hs
    · simp only [Bool.and_eq_true] at hg
      have e1 := phC_in hg.1 hg.2
      have e2 := hsV_in hg.1 hg.2
      rw [e1] at R2 HL E2
      rw [e1]
      rw [e2] at HV
      simp only at R2 HL E2 HV ⊢
      obtain ⟨hl20, hup, hrng, hsum⟩ := goodH_facts hg.2
      have hposF := fil_pos hup (fun x hx => (hrng x hx).2)
      have hsF : (fil hs).sum = hs.sum := fil_sum hup (fun x hx => (hrng x hx).1)
      have hX : xorF xs 0 (fil hs) = xorF xs 0 hs := xorF_fil xs (fun x hx => (hrng x hx).1)
      have hs0 : 0 ≤ hs.sum := by rw [← hsF]; have := hposF.len; omega
      have hodd : Hid ((plays xs (fil hs)).length % 2 = 1 ↔ xorF xs 0 hs ≠ 0) := Lib.hid (by rw [← hX]; exact plays_odd 6000 hposF (by omega))
      have hdec : Hid (dec hs.sum (plays xs (fil hs))) := Lib.hid (by rw [← hsF]; exact plays_dec 6000 hposF (by omega))
      have hrng' := Lib.hid (fun x (hx : x ∈ hs) => (⟨(hrng x hx).1, by have := (hrng x hx).2; omega⟩ : 0 ≤ x ∧ x ≤ 100000))
      have hWl : (plays xs (fil hs)).length ≤ 1000000 := by have := (phC_small xs hs).1; rw [e1] at this; exact this
      have hfacts : Hid (∀ p ∈ plays xs (fil hs), Pos p ∧ p.sum ≤ 6000) := Lib.hid (fun p hp => by
        obtain ⟨h1, h2⟩ := plays_mem hposF hp
        exact ⟨h1, by omega⟩)
      obtain ⟨W, hW⟩ : ∃ W, plays xs (fil hs) = W := ⟨_, rfl⟩
      obtain ⟨X, hXX⟩ : ∃ X, xorF xs 0 hs = X := ⟨_, rfl⟩
      rw [hW] at hodd hdec hfacts R2 HL E2 hWl ⊢
      rw [hXX] at hodd HV
      clear hup hrng hX hW hXX hg e1 e2 hsF hposF O2
      go_wp2_with fail
      refine HL.out.mono ?_
      rintro e w5 ⟨rfl, q⟩
      have BW5 := Lib.hid (Below.next BW.out q.below)
      have B15 := Lib.hid (Below.next B23.out q.below)
      have R5 := Lib.hid (RdL.below R2.out q.below)
      have HV5 := Lib.hid (HV.out w5 q.below)
      clear q R2 HL BW B23 HV
      go_wp2_with fail
      refine HV5.out.mono ?_
      rintro e w6 ⟨rfl, b6⟩
      have BW6 := Lib.hid (Below.next BW5.out b6)
      have B16 := Lib.hid (Below.next B15.out b6)
      have R6 := Lib.hid (RdL.below R5.out b6)
      obtain ⟨s2, hs2⟩ : ∃ s, hs.sum = s := ⟨_, rfl⟩
      have HS2 := Lib.hid (c_rSum (some ⟨gb, 0, none⟩) c2 hs w6 (RH.out.below B16.out) (by omega) hrng'.out)
      rw [hs2] at HS2 hdec hs0 hsum
      clear b6 HV5 BW5 B15 R5 hs2 hrng'
      go_wp2_with fail
      refine HS2.out.mono ?_
      rintro e w' ⟨rfl, rfl⟩
      clear HS2
      go_wp2_with fail
      go_loopg [11, 12] W.length (fun mm s i wx => ∃ (k : Nat) (t : Int) (wz : World), wz = wx ∧ wz = w6 ∧ k ≤ W.length ∧ mm = W.length - k ∧ i = .int .i64 k ∧ s = .int .i64 t ∧ 0 ≤ t ∧ t ≤ 6000 ∧ Hid (dec t (W.drop k)))
      case atStart => exact ⟨0, s2, _, rfl, rfl, Nat.zero_le _, rfl, rfl, rfl, hs0, hsum, hdec⟩
      case round =>
        obtain ⟨k, t, wz, rfl, hwz, hk, rfl, rfl, rfl, t0, t1, hdk⟩ := hrel
        subst hwz
        clear hdec
        by_cases hlt : k < W.length
        · have hltI : (k : Int) < (W.length : Int) := by omega
          obtain ⟨b, off, rfl, _, r, _, _, e1, r1, hcx⟩ := R6.out.at_ hlt
          have hrk : r.xs = W[k] := by rw [← e1, E2.out]; simp [hlt]
          have hp := hfacts.out r.xs (by rw [hrk]; exact List.getElem_mem hlt)
          have hdk2 := hdk.out
          rw [List.drop_eq_getElem_cons hlt] at hdk2
          obtain ⟨hd1, hd2⟩ := hdk2
          rw [← hrk] at hd1 hd2
          clear e1 hrk
          obtain ⟨rA, rc, p⟩ := r
          simp only [Row.rd] at hp r1 hcx hd1 hd2
          have hpl := hp.1.len
          have hps := hp.2
          have hpl2 : p.length ≤ 6000 := by omega
          have HS1 := Lib.hid (c_rSum rA rc p wz r1 (by omega) (fun x hx => (⟨by have := (hp.1.2 x hx).1; omega, by have := (hp.1.2 x hx).2; omega⟩ : 0 ≤ x ∧ x ≤ 100000)))
          have Hd2 := Lib.hid hd2
          obtain ⟨s1, hs1⟩ : ∃ s, p.sum = s := ⟨_, rfl⟩
          rw [hs1] at HS1 Hd2 hd1 hps hpl
          have hge2 : ¬ t ≤ s1 := by omega
          clear r1 hp hs1 hd2 hdk
          go_wp2_with fail
          refine HS1.out.mono ?_
          rintro e w' ⟨rfl, rfl⟩
          go_wp2_with fail
          refine HS1.out.mono ?_
          rintro e w' ⟨rfl, rfl⟩
          clear HS1
          go_wp2_with fail
          go_roundg (W.length - (k + 1))
          case measure => omega
          case rel => exact ⟨k + 1, s1, _, rfl, rfl, by omega, rfl, by go_num, rfl, by omega, by omega, Hd2⟩
        · obtain rfl : k = W.length := by omega
          by_cases h0 : X = 0
          · subst h0
            have h1 : ¬ W.length % 2 = 1 := fun h => hodd.out.1 h rfl
            have h2 : (W.length : Int) % 2 = 0 := by omega
            have h3 : (W.length : Int).tmod 2 = 0 := by rw [Int.tmod_eq_emod_of_nonneg (by omega)]; exact h2
            go_wp2_with fail
            go_ret
            exact ⟨rfl, BW6.out⟩
          · have h1 : W.length % 2 = 1 := hodd.out.2 h0
            have h2 : (W.length : Int) % 2 = 1 := by omega
            have h3 : (W.length : Int).tmod 2 = 1 := by rw [Int.tmod_eq_emod_of_nonneg (by omega)]; exact h2
            have hX1 : ((X : Int) == 0) = false := by simpa using h0
            have hX2 : ((X : Int) != 0) = true := by simpa using h0
            go_wp2_with fail
            go_ret
            exact ⟨rfl, BW6.out⟩
    · have h1 : phC xs hs = ([], false) := by unfold phC; rw [if_neg hg]
      rw [h1] at R2 HL E2
      rw [h1]
      simp only at R2 HL E2 ⊢
      clear h1 hg
      go_wp2_with fail
      refine HL.out.mono ?_
      rintro e w5 ⟨rfl, q⟩
      have Bq := Lib.hid (Below.next BW.out q.below)
      clear q
      go_wp2_with fail
      go_ret
      exact ⟨rfl, Bq.out⟩
  · have hd : decide (65536 < (n : Int)) = true := decide_eq_true (by omega)
    rw [hd] at HB
    clear rd f hd
    go_enter Try.func9, Try.ntmps9
    go_wp2_with (go_at_call 18; refine HB.out.mono ?_; rintro e w' ⟨rfl, rfl⟩)
    go_ret
    exact ⟨rfl, Below.refl _ _⟩
end Go.Proofs.Ytoeacocijcammaa
