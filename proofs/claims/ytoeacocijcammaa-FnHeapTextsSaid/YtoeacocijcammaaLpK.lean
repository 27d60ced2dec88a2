/- Codes, their texts and a heap's moves: the walk of the law FnHeapTexts. -/
import Derived.Test.YtoeacocijcammaaLpJ
import Derived.Test.YtoeacocijcammaaHpD
import Derived.Test.YtoeacocijcammaaLlL
namespace Go.Proofs.Ytoeacocijcammaa
open Go.RowKit

theorem getD_u8 (l : List Int) : ∀ (k : Nat), ((l.map fun n => UInt8.ofNat n.toNat).getD k 0) = UInt8.ofNat (l.getD k 0).toNat := by
  induction l with
  | nil => intro k; simp
  | cons a l ih => intro k; cases k with
    | zero => simp
    | succ k => simpa using ih k
theorem u8_back {y : Int} (h0 : 0 ≤ y) (h1 : y ≤ 7) : (((UInt8.ofNat (48 + y).toNat).toNat : Nat) : Int) - 48 = y := by
  obtain ⟨n, rfl⟩ := Int.eq_ofNat_of_zero_le h0
  have : n ≤ 7 := by omega
  have h : ((48 : Int) + (n : Int)).toNat = 48 + n := by omega
  rw [h]
  have : (UInt8.ofNat (48 + n)).toNat = 48 + n := by simp; omega
  rw [this]; omega
theorem digs_code {xs : List Int} (h : ∀ d ∈ xs, 0 ≤ d ∧ d ≤ 7) : digs (strOfNums (codeB xs)) = xs := by
  unfold digs strOfNums codeB
  simp only [List.map_cons, List.map_map, List.drop_succ_cons, List.drop_zero]
  conv => rhs; rw [← List.map_id xs]
  apply List.map_congr_left
  intro d hd
  obtain ⟨h0, h1⟩ := h d hd
  exact u8_back h0 h1
theorem readC_codeT {xs : List Int} (h : goodC xs = true) : readC (strOfNums (codeB xs)) = (xs, true) := by
  have hi := goodC_iff.1 h
  have hd := digs_code hi.2.2.1
  have hs : (strOfNums (codeB xs)).size = xs.length + 1 := by rw [strOfNums_size]; simp [codeB]
  unfold readC readOk
  rw [hd, h, hs]
  have h1 : decide (2 ≤ xs.length + 1) = true := by simp; omega
  have h2 : decide (xs.length + 1 ≤ 7) = true := by simp; omega
  rw [h1, h2]
  rfl
theorem readC_empty : readC ByteArray.empty = ([], false) := by
  unfold readC readOk
  rfl
theorem half_q (q : Nat) : ((q : Nat) : Int).tdiv 2 = ((q / 2 : Nat) : Int) := by
  rw [Int.tdiv_eq_ediv_of_nonneg (by omega)]; simp
/-- What a move says: k and the code's digit. -/
theorem move_code {xs : List Int} {h : Nat} {p : List Int} (hg : goodC xs = true) (hp : p ∈ moves xs h) : ∃ (i q : Nat), i < xs.length ∧ p.sum = (h : Int) - ((i : Int) + 1) ∧ p.length ≤ 2 ∧ xs.getD i 0 = (q : Int) ∧ q ≤ 7 ∧ Hid (q / 2 ^ p.length % 2 = 1) ∧ i < h := by
  obtain ⟨i, h1, h2, h3⟩ := mvs_mem.1 (moves_mem.1 hp)
  obtain ⟨f1, f2, f3, f4⟩ := mvK_facts h3
  have hd := goodC_mem hg h1
  exact ⟨i, (xs.getD i 0).toNat, h1, by omega, f1, by omega, by omega, Lib.hid f4, h2⟩
set_option maxRecDepth 100000 in
set_option maxHeartbeats 6400000 in
theorem w_FnHeapTexts (A : Option Addr) (n c : Nat) (bs : List Int) (w : World) (rd : RdV w A n (bs.map (Value.int .u8))) (f : Fits .u8 bs) (m : n ≤ maxLen) :
    Calls Try.prog 4 #[.slice A n c] w fun e w' => e = .returned (.bool true) ∧ Below w.heap.size w w' := by
  have HB := Lib.hid (c_rBig A n c w m)
  by_cases hn : n ≤ 65536
  · have hd : decide (65536 < (n : Int)) = false := decide_eq_false (by omega)
    rw [hd] at HB
    have HD := Lib.hid (c_DrawHeapMoves A n c bs w ⟨rd, f, by omega⟩)
    clear rd f hd
    go_enter Try.func4, Try.ntmps4
    go_wp2_with (first | (go_at_call 18; refine HB.out.mono ?_; rintro e w' ⟨rfl, rfl⟩))
    refine HD.out.mono ?_
    rintro e w1 ⟨B, c1, xs, x, rfl, rx, lx, x0, x1, b1⟩
    have RX := Lib.hid rx
    have B1 := Lib.hid b1
    have HC := Lib.hid (c_CodeText B c1 xs w1 rx (by omega))
    clear rx b1 HD HB
    go_wp2_with fail
    refine HC.out.mono ?_
    rintro e w2 ⟨rfl, b2⟩
    have B2 := Lib.hid b2
    have hsz : (codeT xs).1.size ≤ 1048576 := by
      unfold codeT
      split
      · simp only [strOfNums_size, codeB, List.length_cons, List.length_map]; omega
      · exact Nat.zero_le _
    have HR := Lib.hid (c_ReadCode (codeT xs).1 w2 hsz)
    obtain ⟨txt, htxt⟩ : ∃ t, codeT xs = t := ⟨_, rfl⟩
    obtain ⟨s, ok⟩ := txt
    have HT := Lib.hid htxt
    rw [htxt] at HR hsz ⊢
    clear b2 HC htxt
    go_wp2_with fail
    refine HR.out.mono ?_
    rintro e w3 ⟨A3, c3, rfl, o3, b3⟩
    have R3 := Lib.hid (OwnI.rd o3)
    have B3 := Lib.hid (Below.next B2.out b3)
    have HM := Lib.hid (c_HeapMoves B c1 xs x w3 (RX.out.below B3.out))
    simp only at R3 ⊢
    clear o3 b3 HR B2
    obtain ⟨bk, hbk⟩ : ∃ t, readC s = t := ⟨_, rfl⟩
    obtain ⟨back, okR⟩ := bk
    have HK := Lib.hid hbk
    rw [hbk] at R3 ⊢
    clear hbk
    go_wp2_with fail
    refine HM.out.mono ?_
    rintro e w4 ⟨A4, c4, rs, rfl, o4, e4, b4⟩
    have O4 := Lib.hid o4
    have E4 := Lib.hid e4
    have B4 := Lib.hid b4
    have B14 := Lib.hid (Below.next B3.out b4)
    have HS := Lib.hid (s_HeapMoves B c1 xs x w4 (RX.out.below B14.out) (by omega))
    clear o4 e4 b4 HM B3
    go_wp2_with fail
    refine HS.out.mono ?_
    rintro e w5 ⟨A5, c5, ss, rfl, r5, e5, b5⟩
    have R5 := Lib.hid r5
    have E5 := Lib.hid e5
    have hsm := hmC_small xs x
    have R4 : Hid (RdL w5 A4 (hmC xs x).1.length rs) := Lib.hid (by
      exact (O4.out.below b5).rdm (by rw [← E4.out]; simp))
    have HL := Lib.hid (c_rListsT A4 A5 c4 c5 (hmC xs x).1 rs ss w5 R4.out r5 E4.out e5 (by have := hsm.1; omega) (fun p hp => by have := hsm.2.1 p hp; omega))
    have B15 := Lib.hid (Below.next B14.out b5)
    have B05 := Lib.hid (Below.next B1.out B15.out)
    have HGs := Lib.hid (s_GoodCode B c1 xs w5 (RX.out.below B15.out) (by omega))
    have HGc := Lib.hid (c_GoodCode B c1 xs w5 (RX.out.below B15.out))
    have R35 := Lib.hid (R3.out.below (Below.next B4.out b5))
    clear r5 e5 b5 HS hsm R5 E5 B1 B4 B14 R3 O4
    by_cases hg : goodC xs = true
    · have hok : codeT xs = (strOfNums (codeB xs), true) := by simp [codeT, hg]
      have ht := HT.out
      rw [hok] at ht
      cases ht
      have hk := HK.out
      rw [readC_codeT hg] at hk
      cases hk
      rw [hg] at HGs HGc
      clear HT HK hok
      by_cases hx : inB x 0 300 = true
      · obtain ⟨hx0, hx3⟩ := inB_true.1 hx
        obtain ⟨h, rfl⟩ := Int.eq_ofNat_of_zero_le hx0
        have e1 : hmC xs (h : Int) = (moves xs h, true) := hmC_in hg (by omega)
        rw [e1] at R4 HL E4 ⊢
        simp only at R4 HL E4 R35 ⊢
        have hmv : Hid (∀ p ∈ moves xs h, ∃ (i q : Nat), i < xs.length ∧ p.sum = (h : Int) - ((i : Int) + 1) ∧ p.length ≤ 2 ∧ xs.getD i 0 = (q : Int) ∧ q ≤ 7 ∧ Hid (q / 2 ^ p.length % 2 = 1) ∧ i < h) := Lib.hid (fun p hp => move_code hg hp)
        have hWl : (moves xs h).length ≤ 1000000 := by have := (hmC_small xs (h : Int)).1; rw [e1] at this; exact Nat.le_trans this (by decide)
        have hmm : Hid (∀ p ∈ moves xs h, ∀ y ∈ p, 0 ≤ y ∧ y ≤ 100000) := Lib.hid (fun p hp y hy => by
          obtain ⟨i, h1, h2, h3⟩ := mvs_mem.1 (moves_mem.1 hp)
          obtain ⟨f1, f2, f3, f4⟩ := mvK_facts h3
          have := f3 y hy
          refine ⟨by omega, ?_⟩
          rcases mvK_mem.1 h3 with ⟨rfl, _, _⟩ | ⟨rfl, _, _⟩ | ⟨j, rfl, _, hj⟩
          · simp at hy
          · simp at hy; omega
          · simp only [List.mem_cons, List.not_mem_nil, or_false] at hy
            rcases hy with rfl | rfl <;> omega)
        obtain ⟨W, hW⟩ : ∃ W, moves xs h = W := ⟨_, rfl⟩
        rw [hW] at R4 HL E4 hmv hWl hmm ⊢
        clear hW e1 hg hx
        go_wp2_with (first | (go_at_call 22; refine HGs.out.mono ?_; rintro e w' ⟨rfl, rfl⟩) | (go_at_call 23; refine HGc.out.mono ?_; rintro e w' ⟨rfl, rfl⟩))
        refine HL.out.mono ?_
        rintro e w6 ⟨rfl, q6⟩
        have B06 := Lib.hid (Below.next B05.out q6.below)
        have R46 := Lib.hid (RdL.below R4.out q6.below)
        have RX6 := Lib.hid (RX.out.below (Below.next B15.out q6.below))
        have HI := Lib.hid (c_rIntsT A3 B c3 c1 xs w6 (R35.out.q q6) RX6.out (by omega))
        clear HGs HGc HL q6 B05 R4 B15 R35 RX
        go_wp2_with fail
        refine HI.out.mono ?_
        rintro e w7 ⟨rfl, q7⟩
        have B07 := Lib.hid (Below.next B06.out q7.below)
        have R47 := Lib.hid (RdL.below R46.out q7.below)
        have RX7 := Lib.hid (RX6.out.q q7)
        clear HI q7 B06 R46 RX6
        go_wp2_with fail
        go_loopg [13] W.length (fun mm i wx => ∃ (k : Nat) (wz : World), wz = wx ∧ wz = w7 ∧ k ≤ W.length ∧ mm = W.length - k ∧ i = .int .i64 k)
        case atStart => exact ⟨0, _, rfl, rfl, Nat.zero_le _, rfl, rfl⟩
        case round =>
          obtain ⟨k, wz, rfl, hwz, hk, rfl, rfl⟩ := hrel
          subst hwz
          by_cases hlt : k < W.length
          · have hltI : (k : Int) < (W.length : Int) := by omega
            obtain ⟨b, off, rfl, _, r, _, _, e1, r1, hcx⟩ := R47.out.at_ hlt
            have hrk : r.xs = W[k] := by rw [← e1, E4.out]; simp [hlt]
            have hp := hmv.out r.xs (by rw [hrk]; exact List.getElem_mem hlt)
            have hpm := hmm.out r.xs (by rw [hrk]; exact List.getElem_mem hlt)
            clear e1 hrk
            obtain ⟨rA, rc, p⟩ := r
            simp only [Row.rd] at hp hpm r1 hcx
            obtain ⟨i, q, hi, hsum, hp2, hq, hq7, hbit, hih⟩ := hp
            obtain ⟨b2, off2, rfl, _, hcd⟩ := RX7.out.at_ hi
            rw [hq] at hcd
            have HS1 := Lib.hid (c_rSum rA rc p wz r1 (by omega) hpm)
            rw [hsum] at HS1
            clear r1 hpm hsum hq
            go_upto_region 15 with fail
            go_cut [14] (fun v wx => ∃ (kk : Int) (wy : World), wy = wx ∧ wy = wz ∧ v = .int .i64 kk ∧ kk - 1 = (i : Int) ∧ 1 ≤ kk ∧ kk ≤ (xs.length : Int))
            case first =>
              go_wp2_with (go_at_call 26; refine HS1.out.mono ?_; rintro e w' ⟨rfl, rfl⟩)
              go_meet
              case rel => exact ⟨_, _, rfl, rfl, rfl, by omega, by omega, by omega⟩
            case rest =>
              obtain ⟨kk, wy, rfl, hwy, rfl, hsub, hk1, hk2⟩ := hcut
              subst hwy
              clear HS1
              have hi1 : ¬ kk < 1 := by omega
              have hi2 : ¬ (xs.length : Int) < kk := by omega
              have hp2I : ¬ 2 < (p.length : Int) := by omega
              have hp2J : ¬ 2 < p.length := by omega
              go_wp2_with fail
              go_loopg [15, 16] p.length (fun mm b j wx => ∃ (t u : Nat) (wv : World), wv = wx ∧ wv = wy ∧ t ≤ p.length ∧ mm = p.length - t ∧ j = .int .i64 t ∧ b = .int .i64 u ∧ u ≤ 7 ∧ Hid (u / 2 ^ (p.length - t) % 2 = 1))
              case atStart => exact ⟨0, q, _, rfl, rfl, Nat.zero_le _, rfl, rfl, rfl, hq7, hbit⟩
              case round =>
                obtain ⟨t, u, wv, rfl, hwv, ht, rfl, rfl, rfl, hu7, hub⟩ := hrel
                subst hwv
                have hhalf := half_q u
                by_cases htl : t < p.length
                · have htI : (t : Int) < (p.length : Int) := by omega
                  go_wp2_with fail
                  go_roundg (p.length - (t + 1))
                  case measure => omega
                  case rel => exact ⟨t + 1, u / 2, _, rfl, rfl, by omega, rfl, by go_num, by first | rfl | (rw [hhalf]), by omega, Lib.hid (by
                    have := hub.out
                    rw [show p.length - t = (p.length - (t + 1)) + 1 by omega, Nat.pow_succ, Nat.mul_comm, ← Nat.div_div_eq_div_mul] at this
                    exact this)⟩
                · obtain rfl : t = p.length := by omega
                  have h1 : u % 2 = 1 := by have := hub.out; simpa using this
                  have h3 : (u : Int).tmod 2 = 1 := by rw [Int.tmod_eq_emod_of_nonneg (by omega)]; omega
                  go_wp2_with fail
                  go_roundg (W.length - (k + 1))
                  case measure => omega
                  case rel => exact ⟨k + 1, _, rfl, rfl, by omega, rfl, by go_num⟩
          · obtain rfl : k = W.length := by omega
            go_wp2_with fail
            go_ret
            exact ⟨rfl, B07.out⟩
      · have e1 : hmC xs x = ([], false) := hmC_n (by simpa using hx)
        rw [e1] at R4 HL E4 ⊢
        simp only at R4 HL E4 R35 ⊢
        clear e1 hg hx
        go_wp2_with (first | (go_at_call 22; refine HGs.out.mono ?_; rintro e w' ⟨rfl, rfl⟩) | (go_at_call 23; refine HGc.out.mono ?_; rintro e w' ⟨rfl, rfl⟩))
        refine HL.out.mono ?_
        rintro e w6 ⟨rfl, q6⟩
        have B06 := Lib.hid (Below.next B05.out q6.below)
        have RX6 := Lib.hid (RX.out.below (Below.next B15.out q6.below))
        have HI := Lib.hid (c_rIntsT A3 B c3 c1 xs w6 (R35.out.q q6) RX6.out (by omega))
        clear HGs HGc HL q6 B05 R4 B15 R35 RX
        go_wp2_with fail
        refine HI.out.mono ?_
        rintro e w7 ⟨rfl, q7⟩
        have B07 := Lib.hid (Below.next B06.out q7.below)
        clear HI q7 B06 RX6
        go_wp2_with fail
        go_loopg [13] 0 (fun mm i wx => ∃ (wz : World), wz = wx ∧ wz = w7 ∧ i = .int .i64 0)
        case atStart => exact ⟨_, rfl, rfl, rfl⟩
        case round =>
          obtain ⟨wz, rfl, hwz, rfl⟩ := hrel
          subst hwz
          go_wp2_with fail
          go_ret
          exact ⟨rfl, B07.out⟩
    · have hgf : goodC xs = false := by simpa using hg
      have hok : codeT xs = (ByteArray.empty, false) := by simp [codeT, hgf]
      have ht := HT.out
      rw [hok] at ht
      cases ht
      have hk := HK.out
      rw [readC_empty] at hk
      cases hk
      have e1 : hmC xs x = ([], false) := hmC_code hgf
      rw [hgf] at HGs HGc
      rw [e1] at R4 HL E4 ⊢
      simp only at R4 HL E4 R35 ⊢
      clear HT HK hok e1 hg hgf
      go_wp2_with (first | (go_at_call 22; refine HGs.out.mono ?_; rintro e w' ⟨rfl, rfl⟩) | (go_at_call 23; refine HGc.out.mono ?_; rintro e w' ⟨rfl, rfl⟩))
      refine HL.out.mono ?_
      rintro e w6 ⟨rfl, q6⟩
      have B06 := Lib.hid (Below.next B05.out q6.below)
      clear HGs HGc HL q6 B05 R4 B15 R35 RX
      go_wp2_with fail
      go_loopg [13] 0 (fun mm i wx => ∃ (wz : World), wz = wx ∧ wz = w6 ∧ i = .int .i64 0)
      case atStart => exact ⟨_, rfl, rfl, rfl⟩
      case round =>
        obtain ⟨wz, rfl, hwz, rfl⟩ := hrel
        subst hwz
        go_wp2_with fail
        go_ret
        exact ⟨rfl, B06.out⟩
  · have hd : decide (65536 < (n : Int)) = true := decide_eq_true (by omega)
    rw [hd] at HB
    clear rd f hd
    go_enter Try.func4, Try.ntmps4
    go_wp2_with (go_at_call 18; refine HB.out.mono ?_; rintro e w' ⟨rfl, rfl⟩)
    go_ret
    exact ⟨rfl, Below.refl _ _⟩
end Go.Proofs.Ytoeacocijcammaa
