/- The program's PlayHeaps: firstMove. -/
/- The program's PlayHeaps: Clone, the closure, played. -/
import Derived.Test.YtoeacocijcammaaLnA
import Derived.Test.YtoeacocijcammaaLmF
import Derived.Test.YtoeacocijcammaaShelf
namespace Go.Proofs.Ytoeacocijcammaa
open Go.RowKit

set_option maxRecDepth 100000 in
set_option maxHeartbeats 3200000 in
theorem c_firstMove (A : Option Addr) (c : Nat) (xs : List Int) (B : Option Addr) (d : Nat) (F : List Int) (w : World) (rd : RdI w A xs.length xs) (hg : goodC xs = true) (rh : RdI w B F.length F) (hcap : F.length ≤ d) (hpos : Pos F) (hn : F.length ≤ 6100) :
    Calls Try.prog 70 #[.slice A xs.length c, .slice B F.length d] w fun e w' => Below w.heap.size w w' ∧
      ((e = .returned (.tuple #[.slice none 0 0, .bool false]) ∧ firstMv xs F = none) ∨ ∃ A' c' p, e = .returned (.tuple #[.slice A' p.length c', .bool true]) ∧ firstMv xs F = some p ∧ OwnI w' w.heap.size A' c' p) := by
  have RD := Lib.hid rd
  have RH := Lib.hid rh
  have Hg := Lib.hid hg
  have Hpos := Lib.hid hpos
  clear rd rh hg hpos
  go_enter Try.func70, Try.ntmps70
  go_wp2_with fail
  go_loopg [11] F.length (fun m i wx => ∃ (k : Nat) (wz : World), wz = wx ∧ k ≤ F.length ∧ m = F.length - k ∧ i = .int .i64 k ∧ Hid (Below w.heap.size w wz) ∧ Hid (fstF xs F (F.length - k) k = firstMv xs F))
  case atStart => exact ⟨0, _, rfl, Nat.zero_le _, rfl, rfl, Lib.hid (Below.refl _ _), Lib.hid rfl⟩
  case round =>
    obtain ⟨k, wz, rfl, hk, rfl, rfl, bz, hft⟩ := hrel
    by_cases hlt : k < F.length
    · have hltI : (k : Int) < (F.length : Int) := by omega
      have rF : RdI wz B F.length F := RH.out.below bz.out
      obtain ⟨ga, oa, e, _, hcx⟩ := rF.at_ hlt
      subst e
      have hy2 := Hpos.out.2 _ (mem_getD hlt)
      obtain ⟨t, ht⟩ : ∃ t : Nat, F.getD k 0 = (t : Int) := Int.eq_ofNat_of_zero_le (by omega)
      have ht3 : t ≤ 300 := by omega
      rw [ht] at hcx
      have Ht := Lib.hid ht
      have HM := c_heapMoves A c xs t wz (RD.out.below bz.out) Hg.out ht3
      have RF := Lib.hid rF
      have hsz := bz.out.size
      clear rF ht hy2
      go_wp2_with fail
      refine HM.mono ?_
      rintro e w1 ⟨v2, rfl, gm, cm, rsm, rfl, oM, eM, bM, aM⟩
      have bw := Lib.hid (Below.next bz.out bM)
      cases rsm with
      | nil =>
        have hnx : Hid (fstF xs F (F.length - (k + 1)) (k + 1) = firstMv xs F) := Lib.hid (by
          rw [← hft.out, show F.length - k = (F.length - (k + 1)) + 1 by omega]
          exact (fst_nil (by rw [Ht.out]; exact eM.symm)).symm)
        clear oM eM bM aM
        go_wp2_with fail
        go_roundg (F.length - (k + 1))
        case measure => omega
        case rel => exact ⟨k + 1, _, rfl, by omega, rfl, by go_num, bw, hnx⟩
      | cons m0 mt =>
        have hnx : Hid (firstMv xs F = some (aft F k m0.xs)) := Lib.hid (by
          rw [← hft.out, show F.length - k = (F.length - (k + 1)) + 1 by omega]
          exact fst_cons (l := nums mt) (by rw [Ht.out]; exact eM.symm))
        have rV := RdV.of_own oM.outer
        obtain ⟨_, _, e, _, hcv⟩ := RdV.at_ rV (k := 0) (by simp)
        cases e
        have hcv := hcv 0 m0.val (by simp)
        have hm0 := (oM.rows m0 (by simp)).rd
        have hAne := aM m0 (by simp)
        have hmf := mvs_facts (moves_mem.1 (show m0.xs ∈ moves xs t by rw [← eM]; simp))
        obtain ⟨rA, rc0, rx⟩ := m0
        simp only [Row.val, Nat.add_zero] at hcv hAne hm0 hmf hnx
        obtain ⟨ad, rfl⟩ : ∃ ad, rA = some ad := by
          cases rA with
          | none => exact absurd rfl hAne
          | some ad => exact ⟨ad, rfl⟩
        have HA := c_replaced ga oa F.length d F k ad rx.length rc0 rx w1 (RF.out.below bM) hcap hlt hm0 (by omega) (by omega)
        have hs4 := bM.size
        clear oM eM bM aM hmf hm0 hAne rV
        go_wp2_with fail
        refine HA.mono ?_
        rintro e w5 ⟨A5, c5, rfl, o5, b5⟩
        have bw5 := Lib.hid (Below.next bw.out b5)
        have ho5 : Hid (OwnI w5 w.heap.size A5 c5 (aft F k rx)) := Lib.hid (own_low o5 (by omega))
        clear o5 b5 HA
        go_wp2_with fail
        exact bodyPost_ret (results_tmp2 rfl _ _ _) rfl ⟨bw5.out, .inr ⟨A5, c5, aft F k rx, rfl, hnx.out, ho5.out⟩⟩
    · obtain rfl : k = F.length := by omega
      have hn0 : Hid (firstMv xs F = none) := Lib.hid (by rw [← hft.out, Nat.sub_self]; rfl)
      go_wp2_with fail
      exact bodyPost_ret (results_tmp2 rfl _ _ _) rfl ⟨bz.out, .inl ⟨rfl, hn0.out⟩⟩
end Go.Proofs.Ytoeacocijcammaa
namespace Go.Proofs.Ytoeacocijcammaa
open Go.RowKit

theorem own_of_res {w : World} {base n : Nat} {v : Value} {xs : List Int} (h : w.ownsRow base 3 1 v n (xs.map (Value.int .i64))) : ∃ A c, v = .slice A xs.length c ∧ OwnI w base A c xs := by
  have hn : xs.length = n := by have := h.1; simpa using this
  subst hn
  rcases h.2 with ⟨he, h0⟩ | ⟨g, cap, cur, he, r⟩
  · subst he; rw [h0] at h ⊢
    refine ⟨none, 0, rfl, ?_⟩
    unfold OwnI; rw [h0]; exact h
  · subst he; exact ⟨_, _, rfl, h⟩
theorem c_clone (A : Option Addr) (c : Nat) (xs : List Int) (w : World) (rd : RdI w A xs.length xs) (hn : xs.length ≤ 100000000) :
    Calls Try.prog 71 #[.slice A xs.length c] w fun e w' => ∃ A' c', e = .returned (.slice A' xs.length c') ∧ OwnI w' w.heap.size A' c' xs ∧ Below w.heap.size w w' := by
  rcases Nat.eq_zero_or_pos xs.length with h0 | h0
  · obtain rfl := List.length_eq_zero_iff.1 h0
    cases A with
    | none =>
      refine (Try.slices_Clone_int_nil _ c w).mono ?_
      rintro e w' ⟨rfl, rfl⟩
      exact ⟨none, 0, rfl, ⟨rfl, .inl ⟨rfl, rfl⟩⟩, Below.refl _ _⟩
    | some a =>
      refine (Try.slices_Clone_int_zero a c w).mono ?_
      rintro e w' ⟨v', rfl, h1, _, h2⟩
      obtain ⟨A', c', rfl, h3⟩ := own_of_res (xs := []) h1
      exact ⟨A', c', rfl, h3, h2⟩
  · obtain ⟨b, off, rfl, _, _⟩ := rd.at_ h0
    refine (Try.slices_Clone_int b off xs.length c xs w (Nat.le_refl _) (by omega) (fun j hj => ?_)).mono ?_
    · obtain ⟨_, _, e, _, hc⟩ := rd.at_ hj
      cases e; exact hc
    · rintro e w' ⟨v', rfl, h1, _, h2⟩
      rw [List.take_length] at h1
      obtain ⟨A', c', rfl, h3⟩ := own_of_res h1
      exact ⟨A', c', rfl, h3, h2⟩
set_option maxRecDepth 100000 in
theorem c_best (bnd : Bnd) (A : Option Addr) (c : Nat) (xs : List Int) (B : Option Addr) (d : Nat) (F : List Int) (V : Option Addr) (cv : Nat) (b1 b2 : Nat) (w : World) (rd : RdI w A xs.length xs) (hg : goodC xs = true) (rh : RdI w B F.length F) (rt : Tbl w V 301 xs)
    (h1 : w.cell? ⟨b1, 0, none⟩ = some (.slice A xs.length c)) (h2 : w.cell? ⟨b2, 0, none⟩ = some (.slice V 301 cv)) (hpos : Pos F) (hsum : F.sum ≤ 6000) :
    Calls Try.prog 58 #[.slice B F.length d, .pointer (some ⟨b1, 0, none⟩), .pointer (some ⟨b2, 0, none⟩)] w fun e w' => ∃ g c' rs, e = .returned (.slice (some ⟨g, 0, none⟩) rs.length c') ∧ Rc w w' g c' rs (win xs F) := by
  have hl := hpos.len
  have HW := c_winning bnd A c xs B F.length d F V cv w rd hg rh rt (fun x hx => (hpos.2 x hx).2) (by rw [fil_of_pos hpos]; exact hsum) (by omega)
  rw [fil_of_pos hpos] at HW
  clear rd rh rt hg hpos bnd hl
  go_enter Try.func58, Try.ntmps58
  go_wp2_with fail
  refine HW.mono ?_
  rintro e w2 ⟨g, c', rs, rfl, h⟩
  have H := Lib.hid h
  clear h
  go_wp2_with fail
  go_ret
  exact ⟨g, c', rs, rfl, H.out⟩
end Go.Proofs.Ytoeacocijcammaa
