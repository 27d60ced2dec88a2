/- Laws' helpers: rInts, rLists, rSum; draws of a code and heaps. -/
/- Draws of a code and heaps. -/
import Derived.Test.YtoeacocijcammaaLpC
import Derived.Test.YtoeacocijcammaaLlK
namespace Go.Proofs.Ytoeacocijcammaa
open Go.RowKit

set_option maxRecDepth 100000 in
theorem c_rIntsT (A B : Option Addr) (c d : Nat) (xs : List Int) (w : World) (rx : RdI w A xs.length xs) (ry : RdI w B xs.length xs) (hn : xs.length ≤ 100000000) :
    Calls Try.prog 25 #[.slice A xs.length c, .slice B xs.length d] w fun e w' => e = .returned (.bool true) ∧ Q w w' := by
  have RX := Lib.hid rx
  have RY := Lib.hid ry
  clear rx ry
  go_enter Try.func25, Try.ntmps25
  go_wp2_with fail
  go_loopw [5] (fun i wr => ∃ k : Nat, k ≤ xs.length ∧ i = .int .i64 k ∧ Q w wr) (fun i _ => xs.length - (intOf i).toNat)
  case atStart => exact ⟨0, Nat.zero_le _, rfl, Q.refl _⟩
  case round =>
    rename_i wr
    obtain ⟨k, hk, rfl, q⟩ := hrel
    have Q' := Lib.hid q
    by_cases hlt : k < xs.length
    · obtain ⟨b, off, rfl, _, hcx⟩ := (RX.out.q q).at_ hlt
      obtain ⟨b2, off2, rfl, _, hcy⟩ := (RY.out.q q).at_ hlt
      generalize xs.getD k 0 = y at *
      have hlt2 : (k : Int) < (xs.length : Int) := by omega
      clear q
      go_wp2_with fail
      go_quiet (fail)
      go_wp2_with fail
      go_roundw
      case rel => exact ⟨k + 1, by omega, by go_num, Q'.out.drew _⟩
      case measure => simp [intOf]; omega
    · obtain rfl : k = xs.length := by omega
      clear q
      go_wp2_with fail
      go_ret
      exact ⟨rfl, Q'.out⟩
set_option maxRecDepth 100000 in
theorem c_rSum (A : Option Addr) (c : Nat) (xs : List Int) (w : World) (rx : RdI w A xs.length xs) (hn : xs.length ≤ 100000) (hb : ∀ x ∈ xs, 0 ≤ x ∧ x ≤ 100000) :
    Calls Try.prog 26 #[.slice A xs.length c] w fun e w' => e = .returned (.int .i64 xs.sum) ∧ w = w' := by
  obtain ⟨z, hz⟩ : ∃ z, Hid (xs.sum = z) := ⟨_, Lib.hid rfl⟩
  rw [hz.out]
  have HB := Lib.hid hb
  clear hb
  go_enter Try.func26, Try.ntmps26
  go_wp2_with fail
  go_loop [3, 4] (fun s i => ∃ (k : Nat) (t : Int), k ≤ xs.length ∧ i = .int .i64 k ∧ s = .int .i64 t ∧ 0 ≤ t ∧ t ≤ 100000 * (k : Int) ∧ Hid (t + (xs.drop k).sum = z)) (fun _ i => xs.length - (intOf i).toNat)
  case atStart => exact ⟨0, 0, Nat.zero_le _, rfl, rfl, by omega, by omega, Lib.hid (by simpa using hz.out)⟩
  case round =>
    obtain ⟨k, t, hk, rfl, rfl, t0, t1, hrem⟩ := hrel
    by_cases hlt : k < xs.length
    · obtain ⟨b, off, rfl, _, hcx⟩ := rx.at_ hlt
      have hy := HB.out _ (mem_getD hlt)
      have hd : Hid (t + xs.getD k 0 + (xs.drop (k + 1)).sum = z) := Lib.hid (by
        have := hrem.out
        rw [drop_cons hlt, List.sum_cons] at this; omega)
      generalize xs.getD k 0 = y at *
      have hlt2 : (k : Int) < (xs.length : Int) := by omega
      go_wp2_with fail
      go_round
      case rel => exact ⟨k + 1, t + y, by omega, by go_num, by go_num, by omega, by omega, hd⟩
      case measure => simp [intOf]; omega
    · obtain rfl : k = xs.length := by omega
      have ht : t = z := by have := hrem.out; rw [List.drop_length] at this; simpa using this
      subst ht
      go_wp2_with fail
      go_ret
      exact ⟨rfl, rfl⟩
set_option maxRecDepth 100000 in
set_option maxHeartbeats 1600000 in
theorem c_rListsT (A B : Option Addr) (c d : Nat) (ms : List (List Int)) (rs ss : List Row) (w : World) (rx : RdL w A ms.length rs) (ry : RdL w B ms.length ss) (ex : nums rs = ms) (ey : nums ss = ms) (hn : ms.length ≤ 100000000) (hl : ∀ m ∈ ms, m.length ≤ 100000000) :
    Calls Try.prog 24 #[.slice A ms.length c, .slice B ms.length d] w fun e w' => e = .returned (.bool true) ∧ Q w w' := by
  have RX := Lib.hid rx
  have RY := Lib.hid ry
  have HL := Lib.hid hl
  have EX := Lib.hid ex
  have EY := Lib.hid ey
  clear rx ry hl ex ey
  go_enter Try.func24, Try.ntmps24
  go_wp2_with fail
  go_loopw [5] (fun i wr => ∃ k : Nat, k ≤ ms.length ∧ i = .int .i64 k ∧ Q w wr) (fun i _ => ms.length - (intOf i).toNat)
  case atStart => exact ⟨0, Nat.zero_le _, rfl, Q.refl _⟩
  case round =>
    rename_i wr
    obtain ⟨k, hk, rfl, q⟩ := hrel
    have Q' := Lib.hid q
    by_cases hlt : k < ms.length
    · obtain ⟨b, off, rfl, _, r, _, _, e1, r1, hcx⟩ := (RX.out.q q).at_ hlt
      obtain ⟨b2, off2, rfl, _, s, _, _, e2, r2, hcy⟩ := (RY.out.q q).at_ hlt
      have hlr : r.xs.length ≤ 100000000 := by
        rw [EX.out] at e1; rw [← e1]; exact HL.out _ (by simp [hlt])
      have hrs : s.xs = r.xs := by rw [← e1, ← e2, EX.out, EY.out]
      obtain ⟨sA, sc, sx⟩ := s
      simp only at hrs
      subst hrs
      have HB := Lib.hid (fun (m : Nat) => Q.quiet (n := m) (c_rIntsT r.A sA r.c sc r.xs (wr.drewN m) (RdI.q r1 ((Q.refl wr).drew m)) (RdI.q r2 ((Q.refl wr).drew m)) hlr))
      have hlt2 : (k : Int) < (ms.length : Int) := by omega
      clear q e1 e2 r1 r2
      go_wp2_with fail
      go_quiet ((go_at_call 25; exact HB.out _))
      go_wp2_with fail
      go_roundw
      case rel => exact ⟨k + 1, by omega, by go_num, Q'.out.drew _⟩
      case measure => simp [intOf]; omega
    · obtain rfl : k = ms.length := by omega
      clear q
      go_wp2_with fail
      go_ret
      exact ⟨rfl, Q'.out⟩
end Go.Proofs.Ytoeacocijcammaa
namespace Go.Proofs.Ytoeacocijcammaa
open Go.RowKit

/-- A code and heaps. -/
def Draw2P (w : World) (e : Ending) (w' : World) : Prop :=
  ∃ B c1 L gb c2 L2, e = .returned (.tuple #[.slice B L.length c1, .slice (some ⟨gb, 0, none⟩) L2.length c2]) ∧ RdI w' B L.length L ∧ RdI w' (some ⟨gb, 0, none⟩) L2.length L2 ∧ L.length ≤ 8 ∧ L2.length ≤ 22 ∧ L2.length ≤ c2 ∧ Below w.heap.size w w'
set_option maxHeartbeats 1600000 in
theorem c_DrawHeapsValue (A : Option Addr) (n c : Nat) (bs : List Int) (w : World) (hc : Code8 w A n bs) :
    Calls Try.prog 60 #[.slice A n c] w (Draw2P w) := by
  obtain ⟨hr, hf, hn⟩ := hc
  have hcur := cur_new (c := c) hr hf
  have HD := Lib.hid (c_l17DrawCode w.heap.size A n c bs 0 _ hcur (by omega) (by omega))
  clear hr hcur
  go_enter Try.func60, Try.ntmps60
  go_wp2_with fail
  refine HD.out.mono ?_
  rintro e w1 ⟨B, c1, L, rfl, hl, hD⟩
  have H1 := Lib.hid hD
  have HH := Lib.hid (c_l17DrawHeaps w.heap.size A n c bs _ w1 hD.cur (by omega) (by omega))
  have B1 : Hid (Below w.heap.size w w1) := Lib.hid (((Below.refl _ _).alloc (Nat.le_refl _) _).grown hD.grown (by simp) (fun k hk => by have := Option.some.inj hk; omega))
  clear HD hD
  go_wp2_with fail
  refine HH.out.mono ?_
  rintro e w2 ⟨gb, c2, L2, rfl, hl2, hD2⟩
  have R1 : Hid (RdI w2 B L.length L) := Lib.hid (OwnI.rd (own_kept H1.out.own hD2.grown (by
    cases e : (Value.slice B L.length c1).ownBlock with
    | none => exact .inl rfl
    | some k => exact .inr (fun e2 => by
        have := Option.some.inj e2
        have := (H1.out.own.lt k e).1
        simp at this; omega))))
  have R2 := Lib.hid (OwnI.rd hD2.own)
  have hc2 := own_cap hD2.own
  have B2 := Lib.hid (B1.out.grown hD2.grown B1.out.size (fun k hk => by have := Option.some.inj hk; omega))
  clear hD2 HH
  go_wp2_with fail
  exact bodyPost_ret (results_tmp2 rfl _ _ _) rfl ⟨B, c1, L, gb, c2, L2, rfl, R1.out, R2.out, hl, hl2, hc2, B2.out⟩
theorem c_DrawWinningHeaps (A : Option Addr) (n c : Nat) (bs : List Int) (w : World) (hc : Code8 w A n bs) :
    Calls Try.prog 37 #[.slice A n c] w (Draw2P w) := by
  have HD := Lib.hid (c_DrawHeapsValue A n c bs w hc)
  clear hc
  go_enter Try.func37, Try.ntmps37
  go_wp2_with fail
  refine HD.out.mono ?_
  rintro e w1 ⟨B, c1, L, gb, c2, L2, rfl, h⟩
  have H := Lib.hid h
  clear h
  go_wp2_with fail
  exact bodyPost_ret (results_tmp2 rfl _ _ _) rfl ⟨B, c1, L, gb, c2, L2, rfl, H.out⟩
theorem c_DrawPlayHeaps (A : Option Addr) (n c : Nat) (bs : List Int) (w : World) (hc : Code8 w A n bs) :
    Calls Try.prog 39 #[.slice A n c] w (Draw2P w) := by
  have HD := Lib.hid (c_DrawHeapsValue A n c bs w hc)
  clear hc
  go_enter Try.func39, Try.ntmps39
  go_wp2_with fail
  refine HD.out.mono ?_
  rintro e w1 ⟨B, c1, L, gb, c2, L2, rfl, h⟩
  have H := Lib.hid h
  clear h
  go_wp2_with fail
  exact bodyPost_ret (results_tmp2 rfl _ _ _) rfl ⟨B, c1, L, gb, c2, L2, rfl, H.out⟩
theorem c_rBig (A : Option Addr) (n c : Nat) (w : World) (hm : n ≤ maxLen) :
    Calls Try.prog 18 #[.slice A n c] w fun e w' => e = .returned (.bool (decide (65536 < (n : Int)))) ∧ w = w' := by
  unfold maxLen at hm
  go_enter Try.func18, Try.ntmps18
  go_wp2
  go_ret
  exact ⟨rfl, rfl⟩
end Go.Proofs.Ytoeacocijcammaa
