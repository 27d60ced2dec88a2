/- The reference's WinningHeaps. -/
import Derived.Test.YtoeacocijcammaaLlO
import Derived.Test.YtoeacocijcammaaLlL
namespace Go.Proofs.Ytoeacocijcammaa
open Go.RowKit

def whC (xs hs : List Int) : List (List Int) × Bool := if goodC xs && goodH hs then (win xs (fil hs), true) else ([], false)
theorem whC_code {xs hs : List Int} (h : goodC xs = false) : whC xs hs = ([], false) := by simp [whC, h]
theorem whC_heaps {xs hs : List Int} (h : goodH hs = false) : whC xs hs = ([], false) := by simp [whC, h]
theorem whC_in {xs hs : List Int} (h : goodC xs = true) (h2 : goodH hs = true) : whC xs hs = (win xs (fil hs), true) := by simp [whC, h, h2]
theorem risB_up : ∀ {hs : List Int} {l : Int}, risB l hs = true → Up hs
  | [], _, _ => List.Pairwise.nil
  | a :: t, l, h => by
    simp only [risB, Bool.and_eq_true] at h
    have h2 : risB a t = true := by
      first
        | exact h.2
        | (obtain ⟨h1, h2⟩ := h; exact h2)
    exact List.pairwise_cons.2 ⟨fun x hx => (risB_all h2 x hx).1, risB_up h2⟩
theorem sum_le {b : Int} (hb : 0 ≤ b) : ∀ {hs : List Int}, (∀ x ∈ hs, x ≤ b) → hs.sum ≤ b * hs.length
  | [], _ => by simp
  | a :: t, h => by
    have h1 := h a (by simp)
    have h2 := sum_le hb (hs := t) (fun x hx => h x (by simp [hx]))
    simp only [List.sum_cons, List.length_cons]
    rw [show ((t.length + 1 : Nat) : Int) = (t.length : Int) + 1 by omega, Int.mul_add]
    omega
theorem goodH_facts {hs : List Int} (h : goodH hs = true) : hs.length ≤ 20 ∧ Up hs ∧ (∀ x ∈ hs, 0 ≤ x ∧ x ≤ 300) ∧ hs.sum ≤ 6000 := by
  obtain ⟨h1, h2⟩ := goodH_ris h
  have h3 := risB_all h2
  have h4 := sum_le (b := 300) (by decide) (fun x hx => (h3 x hx).2)
  exact ⟨h1, risB_up h2, h3, by omega⟩
theorem vals_one (xs : List Int) : vals xs 1 = [0] := by
  have h : mexN (opts xs [] 0) = 0 := by
    have : mexN (opts xs [] 0) ≤ 0 := mexN_le fun x hx => by simp [opts, optsTo] at hx
    omega
  simp [vals, h]
theorem s_l17Known (A B : Option Addr) (c d : Nat) (xs hs : List Int) (w : World) (rd : RdI w A xs.length xs) (rh : RdI w B hs.length hs) (hg : goodC xs = true) (hb : goodH hs = true) :
    Calls Try.prog 52 #[.slice A xs.length c, .slice B hs.length d] w fun e w' => ∃ V N cap, e = .returned (.slice V N cap) ∧ Tbl w' V N xs ∧ N ≤ 301 ∧ (∀ x ∈ hs, x < N) ∧ Below w.heap.size w w' := by
  obtain ⟨hl, hris⟩ := goodH_ris hb
  by_cases hz : hs.length = 0
  · have h0 : Hid (hs = []) := Lib.hid (List.length_eq_zero_iff.1 hz)
    have hz2 : ((hs.length : Int) == 0) = true := by simp [hz]
    have hr : Hid (Tbl (w.alloc (.cells #[.int .i64 0] 3)) (some ⟨w.heap.size, 0, none⟩) 1 xs) := Lib.hid (by
      have hown := own_block (w := w.alloc (.cells #[.int .i64 0] 3)) (base := 0) (n := 1) (heap_alloc_new w _) (Nat.zero_le _) rfl (by decide)
      have := RdV.of_own hown
      unfold Tbl
      rw [vals_one]
      exact this)
    clear hz hl hris hb hg
    go_enter Try.func52, Try.ntmps52
    go_wp2_with fail
    go_ret
    exact ⟨_, 1, _, rfl, hr.out, by decide, fun x hx => by rw [h0.out] at hx; simp at hx, (Below.refl _ _).alloc (Nat.le_refl _) _⟩
  · have hall := risB_all hris
    have hlast := risB_last hris
    obtain ⟨t, ht⟩ : ∃ t : Nat, hs.getD (hs.length - 1) 0 = (t : Int) := Int.eq_ofNat_of_zero_le (hall _ (mem_getD (by omega))).1
    have ht300 : t ≤ 300 := by have := (hall _ (mem_getD (k := hs.length - 1) (by omega))).2; omega
    rw [ht] at hlast
    have hz2 : ((hs.length : Int) == 0) = false := by simp [hz]
    have Hlast := Lib.hid hlast
    have hpos : 0 < hs.length := by omega
    obtain ⟨b, off, rfl, _, hc⟩ := rh.at_ (k := hs.length - 1) (by omega)
    rw [ht] at hc
    have HV := Lib.hid (s_l17Values_len A c xs t w rd hg ht300)
    clear hris hall hlast hz ht hb hg
    have k1 : (0 : Int) ≤ (hs.length : Int) - 1 := by omega
    have k2 : (hs.length : Int) - 1 < (hs.length : Int) := by omega
    go_enter Try.func52, Try.ntmps52
    go_wp2_with fail
    refine HV.out.mono ?_
    rintro e w1 ⟨g, cap, N, hN, rfl, o1, b1⟩
    have O1 := Lib.hid o1
    have B1 := Lib.hid b1
    have HN := Lib.hid hN
    clear o1 b1 hN
    go_wp2_with fail
    go_ret
    refine ⟨_, N, _, rfl, ?_, by have := HN.out; omega, fun x hx => by have := Hlast.out x hx; have := HN.out; omega, B1.out⟩
    have := RdV.of_own O1.out
    unfold Tbl
    rw [HN.out]; rw [HN.out] at this; exact this
set_option maxHeartbeats 1600000 in
theorem s_WinningHeaps (bnd : Bnd) (A : Option Addr) (c : Nat) (g o d : Nat) (xs hs : List Int) (w : World) (rd : RdI w A xs.length xs) (rh : RdI w (some ⟨g, o, none⟩) hs.length hs) (hd : hs.length ≤ d) (hn : xs.length ≤ 1048576) (hm : hs.length ≤ 1048576) :
    Calls Try.prog 35 #[.slice A xs.length c, .slice (some ⟨g, o, none⟩) hs.length d] w (ReadP w (whC xs hs)) := by
  have HG := Lib.hid (s_GoodCode A c xs w rd (by omega))
  have HH := Lib.hid (s_l17Heaps (some ⟨g, o, none⟩) d hs w rh hm)
  cases hg : goodC xs
  · have fin := Lib.hid (whC_code (hs := hs) hg)
    rw [hg] at HG
    clear hg
    go_enter Try.func35, Try.ntmps35
    go_wp2_with (go_at_call 22; refine HG.out.mono ?_; rintro e w' ⟨rfl, rfl⟩)
    exact bodyPost_ret (results_tmp2 rfl _ _ _) rfl (ReadP.none fin.out rfl (Below.refl _ _))
  · rw [hg] at HG
    cases hb : goodH hs
    · have fin := Lib.hid (whC_heaps (xs := xs) hb)
      rw [hb] at HH
      clear hg hb
      go_enter Try.func35, Try.ntmps35
      go_wp2_with (first | (go_at_call 22; refine HG.out.mono ?_; rintro e w' ⟨rfl, rfl⟩) | (go_at_call 51; refine HH.out.mono ?_; rintro e w' ⟨rfl, q⟩))
      exact bodyPost_ret (results_tmp2 rfl _ _ _) rfl (ReadP.none fin.out rfl q.below)
    · obtain ⟨hl, hup, hrng, hsum⟩ := goodH_facts hb
      have fin := Lib.hid (whC_in hg hb)
      have fin2 : Hid (putAll [] ((candR xs hs).filter (val0 xs)) = win xs (fil hs)) := Lib.hid (winR_eq hup (fun x hx => (hrng x hx).1))
      rw [hb] at HH
      have Hg := Lib.hid hg
      have Hb := Lib.hid hb
      have RD := Lib.hid rd
      have RH := Lib.hid rh
      have Hrng := Lib.hid hrng
      clear hg hb hup hrng rd rh
      go_enter Try.func35, Try.ntmps35
      go_wp2_with (first | (go_at_call 22; refine HG.out.mono ?_; rintro e w' ⟨rfl, rfl⟩) | (go_at_call 51; refine HH.out.mono ?_; rintro e w' ⟨rfl, ⟨nq, rfl⟩⟩))
      have q : Q w (w.drewN nq) := ⟨nq, rfl⟩
      refine (s_l17Known A (some ⟨g, o, none⟩) c d xs hs _ (RD.out.q q) (RH.out.q q) Hg.out Hb.out).mono ?_
      rintro e w1 ⟨V, N, cap, rfl, rt, hN, hmx, b1⟩
      have B1 := Lib.hid (Below.next q.below b1)
      have HW := s_l17Winning bnd A c xs V N cap g o hs.length d hs w1 (RD.out.below B1.out) Hg.out rt hN (RH.out.below B1.out) hd (fun x hx => ⟨(Hrng.out x hx).1, hmx x hx⟩) hsum (by omega)
      clear rt hmx b1 q
      go_wp2_with fail
      refine HW.mono ?_
      rintro e w2 ⟨v, rfl, g2, o2, c2, rs2, rfl, hr2, hc2, hL2, hb2, h5, h6, h7⟩
      have HI : Hid (PutI w w2 (.slice (some ⟨g2, o2, none⟩) rs2.length c2) ((candR xs hs).filter (val0 xs))) := Lib.hid ⟨g2, o2, c2, rs2, rfl, hr2, hc2, hL2, Below.next B1.out hb2, h5, h6, fun r hr => by obtain ⟨⟨b, o, e, hb⟩, hl⟩ := h7 r hr; exact ⟨⟨b, o, e, Nat.le_trans B1.out.size hb⟩, hl⟩⟩
      clear hr2 hL2 hb2 h6 h7
      go_wp2_with fail
      exact bodyPost_ret (results_tmp2 rfl _ _ _) rfl (ReadP.of HI.out (by rw [fin.out, fin2.out]) rfl)
end Go.Proofs.Ytoeacocijcammaa
