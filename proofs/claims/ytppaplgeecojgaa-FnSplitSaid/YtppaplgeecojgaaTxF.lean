/- Joining texts by the program; the walk of the law on JoinTexts. -/
import Derived.Test.YtppaplgeecojgaaTxE
namespace Go.Proofs.Ytppaplgeecojgaa
open Go.RowKit

theorem toNat_u8 (b : UInt8) : ((b.toNat : Int)).toNat.toUInt8 = b := by simp
set_option maxHeartbeats 1600000 in
theorem c_JoinTexts (A : Option Addr) (c : Nat) (l : List ByteArray) (sign : ByteArray) (w : World) (rd : RdS w A l.length l) (hcap : l.length ≤ c) (hl : l.length ≤ 1048576) (hsz : szs l ≤ 1048576) (hsg : sign.size ≤ 1048576) :
    Calls Try.prog 20 #[.slice A l.length c, .string sign] w fun e w' => e = .returned (tv (joinT l sign)) ∧ Below w.heap.size w w' := by
  by_cases hz : l.length = 0
  · have fin := Lib.hid (joinT_none (sign := sign) hz)
    have hz2 : ((l.length : Int) == 0) = true := by simp [hz]
    clear hz
    go_enter Try.func20, Try.ntmps20
    go_wp2_with fail
    go_ret2
    exact ⟨ret_tv fin.out, Below.refl _ _⟩
  · have hz2 : ((l.length : Int) == 0) = false := by simp [hz]
    by_cases h1 : sign.size = 1
    · have h11 : ((sign.size : Int) != 1) = false := by simp [h1]
      have h0 : 0 < sign.size := by omega
      have H1 := Lib.hid h1
      have Hz := Lib.hid hz
      have Hbad := Lib.hid (fun h => joinT_bad (l := l) h0 h)
      have Hgood := Lib.hid (fun h => joinT_ok hz h1 h0 h)
      clear h1 hz
      obtain ⟨m, Hm⟩ : ∃ m, Hid (joinT l sign = m) := ⟨_, Lib.hid rfl⟩
      rw [Hm.out]
      have hl1 : 1 ≤ l.length := by have := Hz.out; omega
      go_enter Try.func20, Try.ntmps20
      go_wp2_with fail
      go_loop [6, 22] (fun o i => ∃ (k z : Nat), k ≤ l.length ∧ i = .int .i64 k ∧ o = .int .i64 z ∧ z ≤ 2097152 ∧ Hid (l.length - 1 + szs (l.take k) = z) ∧ Hid (0 < k → z ≤ 4000) ∧ Hid (AllNo l sign[0] k)) (fun _ i => l.length - (intOf i).toNat)
      case atStart => exact ⟨0, l.length - 1, Nat.zero_le _, rfl, by simp only [Value.int.injEq, true_and]; omega, by omega, Lib.hid rfl, Lib.hid (fun h => absurd h (by omega)), Lib.hid (AllNo.zero _ _)⟩
      case round =>
        obtain ⟨k, z, hk, rfl, rfl, hz, hzz, hz4, hno⟩ := hrel
        by_cases hlt : k < l.length
        · obtain ⟨bk, off, rfl, _, hc⟩ := rd.at_ hlt
          have hyz := Nat.le_trans (szs_get hlt) hsz
          have hnx := szs_take hlt
          have hnx2 := szs_take_le l (k + 1)
          obtain ⟨y, hy⟩ : ∃ y, Hid (l.getD k ByteArray.empty = y) := ⟨_, Lib.hid rfl⟩
          rw [hy.out] at hc hyz hnx
          have hzz' : Hid (l.length - 1 + szs (l.take (k + 1)) = z + y.size) := Lib.hid (by rw [← hzz.out, hnx]; omega)
          have hz2' : z + y.size ≤ 2097152 := by have := hzz'.out; omega
          clear hnx hnx2
          by_cases h4 : z + y.size ≤ 4000
          · have h4' : (z : Int) + (y.size : Int) ≤ 4000 := by omega
            have HI := Lib.hid (fun w => Try.strings_IndexByte y (sign[0].toNat : Int) w)
            rw [toNat_u8] at HI
            by_cases hst : sign[0] ∈ y.data.toList
            · have hq : (0 : Int) ≤ Lib.indexByte y.data.toList sign[0] := idx_pos hst
              have fin : Hid (m = (⟨#[]⟩, false)) := Lib.hid (by rw [← Hm.out]; exact Hbad.out (okJ_stands hlt (by rw [hy.out]; exact decide_eq_true hst)))
              generalize Lib.indexByte y.data.toList sign[0] = o at *
              clear hst
              go_wp2_with (go_at_call 29; refine (HI.out _).mono ?_; rintro e w' ⟨rfl, rfl⟩)
              go_ret2
              exact ⟨ret_tv fin.out, Below.refl _ _⟩
            · have hq := idx_neg hst
              have hno' : Hid (AllNo l sign[0] (k + 1)) := Lib.hid (hno.out.succ hlt (by rw [hy.out]; exact decide_eq_false hst))
              rw [hq] at HI
              clear hst hq
              go_wp2_with (go_at_call 29; refine (HI.out _).mono ?_; rintro e w' ⟨rfl, rfl⟩)
              go_round
              case rel => exact ⟨k + 1, z + y.size, by omega, by go_num, by go_num, hz2', hzz', Lib.hid (fun _ => h4), hno'⟩
              case measure => simp [intOf]; omega
          · have h4' : (4000 : Int) < (z : Int) + (y.size : Int) := by omega
            have fin : Hid (m = (⟨#[]⟩, false)) := Lib.hid (by
              rw [← Hm.out]
              refine Hbad.out (okJ_long ?_)
              have e1 := hzz'.out
              have e2 := szs_take_le l (k + 1)
              omega)
            go_wp2_with fail
            go_ret2
            exact ⟨ret_tv fin.out, Below.refl _ _⟩
        · obtain rfl : k = l.length := by omega
          have hzl := hzz.out
          rw [List.take_length] at hzl
          have hz40 := hz4.out (by omega)
          have fin : Hid (m = (joinB l sign, true)) := Lib.hid (by
            rw [← Hm.out]
            exact Hgood.out (okJ_true (hno.out.all (Nat.le_refl _)) (by omega)))
          obtain ⟨bk, off, rfl, hbk, _⟩ := rd.at_ (k := 0) (by omega)
          have hcells : ∀ (j : Nat) (x : ByteArray), l[j]? = some x → w.cell? ⟨bk, off + j, none⟩ = some (.string x) := by
            intro j x hj
            obtain ⟨hjl, hjx⟩ := List.getElem?_eq_some_iff.1 hj
            obtain ⟨b2, o2, e, _, hc⟩ := rd.at_ (k := j) hjl
            injection e with e
            injection e with e1 e2
            subst e1 e2
            rw [hc]
            simp [hjl, hjx]
          have HJ := Lib.hid (Try.strings_Join bk off c l sign w hcells hbk (by omega) hcap (by
            have := join_len l sign H1.out Hz.out
            rw [byL] at this
            rw [this]; omega))
          clear hcells hzl hz4 hz40
          go_wp2_with fail
          refine HJ.out.mono ?_
          rintro e w1 ⟨rfl, b1⟩
          have B1 := Lib.hid b1
          clear b1
          go_wp2_with fail
          go_ret2
          exact ⟨ret_tv fin.out, B1.out⟩
    · have fin := Lib.hid (joinT_sign (l := l) h1)
      have h11 : ((sign.size : Int) != 1) = true := by simp; omega
      clear h1 hz
      go_enter Try.func20, Try.ntmps20
      go_wp2_with fail
      go_ret2
      exact ⟨ret_tv fin.out, Below.refl _ _⟩
def szS (l : List ByteArray) (left : Nat) : Int := if l.length + szs l ≤ left then ((left - (l.length + szs l) : Nat) : Int) else -1
set_option maxHeartbeats 800000 in
theorem c_szStringS (A : Option Addr) (c : Nat) (l : List ByteArray) (left : Nat) (w : World) (rd : RdS w A l.length l) (hsz : ∀ s ∈ l, s.size ≤ 9223372036854775807) (hl : l.length ≤ 9223372036854775807) (hleft : left ≤ 1048576) :
    Calls Try.prog 17 #[.slice A l.length c, .int .i64 left] w fun e w' => e = .returned (.int .i64 (szS l left)) ∧ w = w' := by
  obtain ⟨r, hr⟩ : ∃ r, Hid (szS l left = r) := ⟨_, Lib.hid rfl⟩
  rw [hr.out]
  by_cases h0 : l.length ≤ left
  · have h0' : (0 : Int) ≤ (left : Int) - (l.length : Int) := by omega
    go_enter Try.func17, Try.ntmps17
    go_wp2_with fail
    go_loop [1, 5] (fun o i => ∃ (k z : Nat), k ≤ l.length ∧ i = .int .i64 k ∧ o = .int .i64 z ∧ z ≤ 1048576 ∧ Hid (l.length + szs (l.take k) + z = left)) (fun _ i => l.length - (intOf i).toNat)
    case atStart => exact ⟨0, left - l.length, Nat.zero_le _, rfl, by simp only [Value.int.injEq, true_and]; omega, by omega, Lib.hid (by simp [szs]; omega)⟩
    case round =>
      obtain ⟨k, z, hk, rfl, rfl, hz, hzz⟩ := hrel
      by_cases hlt : k < l.length
      · obtain ⟨bk, off, rfl, _, hc⟩ := rd.at_ hlt
        have hys := hsz (l.getD k ByteArray.empty) (by simp [hlt])
        have hnx := szs_take hlt
        have hnx2 := szs_take_le l (k + 1)
        generalize l.getD k ByteArray.empty = y at *
        by_cases h1 : y.size ≤ z
        · have h1' : (0 : Int) ≤ (z : Int) - (y.size : Int) := by omega
          have hzz' : Hid (l.length + szs (l.take (k + 1)) + (z - y.size) = left) := Lib.hid (by have := hzz.out; omega)
          clear hnx hnx2
          go_wp2_with fail
          go_round
          case rel => exact ⟨k + 1, z - y.size, by omega, by go_num, by simp only [Value.int.injEq, true_and]; omega, by omega, hzz'⟩
          case measure => simp [intOf]; omega
        · have h1' : (z : Int) - (y.size : Int) < 0 := by omega
          have fin : Hid (r = -1) := Lib.hid (by
            rw [← hr.out, szS, if_neg]
            have := hzz.out
            omega)
          clear hnx hnx2
          go_wp2_with fail
          go_ret
          exact ⟨ret_int fin.out.symm, rfl⟩
      · obtain rfl : k = l.length := by omega
        have fin : Hid (r = (z : Int)) := Lib.hid (by
          have h := hzz.out
          rw [List.take_length] at h
          rw [← hr.out, szS, if_pos (by omega)]
          omega)
        go_wp2_with fail
        go_ret
        exact ⟨ret_int fin.out.symm, rfl⟩
  · have h0' : (left : Int) - (l.length : Int) < 0 := by omega
    have fin : Hid (r = -1) := Lib.hid (by rw [← hr.out, szS, if_neg]; omega)
    go_enter Try.func17, Try.ntmps17
    go_wp2_with fail
    go_ret
    exact ⟨ret_int fin.out.symm, rfl⟩
theorem mk_strs (n : Nat) (hn : n ≤ 1048576) (W : World) :
    (Instr.makeSlice 26 (.int .i64 (n : Int)) (.int .i64 (n : Int))).run Try.prog W = .ok (.slice (some ⟨W.heap.size, 0, none⟩) n n) (W.alloc (.cells (madeCells #[.string ⟨#[]⟩] n) 9)) :=
  run_make_row' (P := Try.prog) 26 9 (.string ⟨#[]⟩) 16 Try.underlying26 (by kernel_rfl) rfl .i64 .i64 n (by omega) (by omega) W
theorem RdS.of_row {w : World} {b : Nat} {t : TypeId} {n : Nat} {l : List ByteArray} (h : w.rowIs b t n fun j => .string (l.getD j ByteArray.empty)) (hn : l.length = n) : RdS w (some ⟨b, 0, none⟩) n l := by
  refine ⟨by simpa using hn, fun _ => ⟨b, 0, rfl, fun i u hu => ?_⟩⟩
  simp only [List.getElem?_map, Option.map_eq_some_iff] at hu
  obtain ⟨x, hx, rfl⟩ := hu
  obtain ⟨hi, hx⟩ := List.getElem?_eq_some_iff.1 hx
  have := h.cell (i := i) (by omega)
  simpa [hx, hi] using this
set_option maxHeartbeats 400000 in
theorem c_toStringS (A : Option Addr) (n c : Nat) (l : List ByteArray) (w : World) (hr : RdS w A n l) (hn : n ≤ 1048576) :
    Calls Try.prog 19 #[.slice A n c] w fun e w' => ∃ g, e = .returned (.slice (some ⟨g, 0, none⟩) l.length l.length) ∧ RdS w' (some ⟨g, 0, none⟩) l.length l ∧ Below w.heap.size w w' := by
  have hlen : Hid (l.length = n) := Lib.hid hr.len
  have hmk := mk_strs n (by omega)
  go_enter Try.func19, Try.ntmps19
  go_wp2_with fail
  clear hmk
  go_loopw [4] (fun i wr => ∃ k : Nat, k ≤ n ∧ i = .int .i64 k ∧ wr.rowIs w.heap.size 9 n (fun j => .string (if j < k then l.getD j ByteArray.empty else ⟨#[]⟩)) ∧ Below w.heap.size w wr) (fun i _ => n - (intOf i).toNat)
  case atStart =>
    exact ⟨0, Nat.zero_le _, rfl, (World.rowIs_made w (.string ⟨#[]⟩) n 9).congr (fun i _ => by simp), (Below.refl _ _).alloc (Nat.le_refl _) _⟩
  case round =>
    rename_i wr
    obtain ⟨k, hk, rfl, hrow, hb⟩ := hrel
    by_cases hlt : k < n
    · obtain ⟨b, off, rfl, hbl, hc⟩ := (hr.below hb).at_ hlt
      have hs := hrow.cell hlt
      have hf := hrow.frozen k
      have Hrow := Lib.hid hrow
      have Hb := Lib.hid hb
      clear hrow hb hr
      go_wp2_with fail
      go_roundw
      case rel =>
        refine ⟨k + 1, by omega, by go_num, (Hrow.out.set k (.string (l.getD k ByteArray.empty))).congr (fun i _ => ?_), Hb.out.setCell (Nat.le_refl _) _⟩
        by_cases h1 : i = k
        · subst h1; simp
        · by_cases h2 : i < k
          · simp [h1, h2, show i < k + 1 from by omega]
          · simp [h1, h2, show ¬ i < k + 1 from by omega]
      case measure => simp [intOf]; omega
    · obtain rfl : k = n := by omega
      have Hrow := Lib.hid hrow
      have Hb := Lib.hid hb
      clear hrow hb
      go_wp2_with fail
      go_ret
      have hl := hlen.out
      subst hl
      exact ⟨_, rfl, RdS.of_row (Hrow.out.congr (fun i hi => by simp [hi])) rfl, Hb.out⟩
set_option maxHeartbeats 1600000 in
theorem w_FnExactJoinTexts (A : Option Addr) (n c : Nat) (l : List ByteArray) (sign : ByteArray) (w : World) (rd : RdV w A n (l.map Value.string)) (hsz : ∀ s ∈ l, s.size ≤ maxLen) (hm : n ≤ maxLen) (hsg : sign.size ≤ maxLen) :
    Calls Try.prog 6 #[.slice A n c, .string sign] w fun e w' => e = .returned (.bool true) ∧ Below w.heap.size w w' := by
  have rd : RdS w A n l := rd
  obtain rfl := rd.len
  unfold maxLen at hsz hm hsg
  by_cases hn2 : sign.size ≤ 1048576
  · have HZ := Lib.hid (c_szStringS A c l 1048576 w rd hsz hm (by omega))
    by_cases hn : l.length + szs l ≤ 1048576
    · have hr : szS l 1048576 = ((1048576 - (l.length + szs l) : Nat) : Int) := if_pos hn
      rw [hr] at HZ
      obtain ⟨m, Hm⟩ : ∃ m, Hid (joinT l sign = m) := ⟨_, Lib.hid rfl⟩
      have HS : ∀ (A : Option Addr) (c : Nat) (w : World), RdS w A l.length l → Calls Try.prog 18 #[.slice A l.length c, .string sign] w fun e w' => e = .returned (tv m) ∧ Q w w' := fun A c w r => by have := s_JoinTexts A c l sign w r (by omega) (by omega) hn2; rwa [Hm.out] at this
      have HC : ∀ (A : Option Addr) (c : Nat) (w : World), RdS w A l.length l → l.length ≤ c → Calls Try.prog 20 #[.slice A l.length c, .string sign] w fun e w' => e = .returned (tv m) ∧ Below w.heap.size w w' := fun A c w r h => by have := c_JoinTexts A c l sign w r h (by omega) (by omega) hn2; rwa [Hm.out] at this
      obtain ⟨x, ok⟩ := m
      have hp : (0 : Int) ≤ ((1048576 - (l.length + szs l) : Nat) : Int) := by omega
      generalize 1048576 - (l.length + szs l) = z at *
      clear hr
      go_enter Try.func6, Try.ntmps6
      go_wp2_with fail
      refine HZ.out.mono ?_
      rintro e w0 ⟨rfl, rfl⟩
      go_wp2_with fail
      refine (c_toStringS _ _ _ l _ rd (by omega)).mono ?_
      rintro e w1 ⟨g1, rfl, r1, b1⟩
      go_wp2_with fail
      refine (HS _ _ _ r1).mono ?_
      rintro e w2 ⟨rfl, q2⟩
      have B2 := Below.next b1 q2.below
      go_wp2_with fail
      refine (c_toStringS _ _ _ l _ (rd.below B2) (by omega)).mono ?_
      rintro e w3 ⟨g3, rfl, r3, b3⟩
      have B3 := Below.next B2 b3
      go_wp2_with fail
      refine (HC _ _ _ r3 (Nat.le_refl _)).mono ?_
      rintro e w4 ⟨rfl, b4⟩
      have B4 := Below.next B3 b4
      have r4 := r3.below b4
      go_wp2_with fail
      refine (c_toStringS _ _ _ l _ (rd.below B4) (by omega)).mono ?_
      rintro e w5 ⟨g5, rfl, r5, b5⟩
      have B5 := Below.next B4 b5
      have r4 := r4.below b5
      go_wp2_with fail
      refine (c_eqStringS_same _ _ _ _ _ l _ r4 r5 (by omega)).mono ?_
      rintro e w6 ⟨rfl, q6⟩
      have B6 := Below.next B5 q6.below
      go_wp2_with fail
      go_ret
      exact ⟨rfl, B6⟩
    · have hr : szS l 1048576 = -1 := if_neg hn
      rw [hr] at HZ
      clear hr
      go_enter Try.func6, Try.ntmps6
      go_wp2_with fail
      refine HZ.out.mono ?_
      rintro e w0 ⟨rfl, rfl⟩
      go_wp2_with fail
      go_ret
      exact ⟨rfl, Below.refl _ _⟩
  · go_enter Try.func6, Try.ntmps6
    go_wp2_with fail
    go_ret
    exact ⟨rfl, Below.refl _ _⟩
end Go.Proofs.Ytppaplgeecojgaa
