/- The values of heaps are the least numbers that no move leaves: the walk of the law FnHeapValues. -/
import Derived.Test.YtoeacocijcammaaLpJ
import Derived.Test.YtoeacocijcammaaLlL
import Derived.Test.YtoeacocijcammaaMvP
namespace Go.Proofs.Ytoeacocijcammaa
open Go.RowKit

set_option maxHeartbeats 400000 in
theorem c_isNimV (a : Int) (w : World) (h : 0 ≤ a ∧ a ≤ 255) :
    Calls Try.prog 50 #[.int .i64 a] w fun e w' => e = .returned (.bool true) ∧ w = w' := by
  obtain ⟨h0, h1⟩ := h
  go_enter Try.func50, Try.ntmps50
  go_wp2_with fail
  go_ret
  exact ⟨rfl, rfl⟩
set_option maxRecDepth 100000 in
set_option maxHeartbeats 400000 in
theorem c_NimSumV (a b : Nat) (w : World) (ha : a < 256) (hb : b < 256) :
    Calls Try.prog 31 #[.int .i64 a, .int .i64 b] w fun e w' => e = .returned (.int .i64 ((a ^^^ b : Nat) : Int)) ∧ w = w' := by
  have HX := Lib.hid (i64_xor_nat a b (by omega) (by omega))
  go_enter Try.func31, Try.ntmps31
  go_wp2_with (go_at_call 50; refine (c_isNimV _ _ ⟨by omega, by omega⟩).mono ?_; rintro e w' ⟨rfl, rfl⟩)
  go_ret
  exact ⟨ret_int HX.out, rfl⟩
set_option maxRecDepth 100000 in
theorem c_rHas (A : Option Addr) (c : Nat) (xs : List Int) (x : Int) (w : World) (rx : RdI w A xs.length xs) (hn : xs.length ≤ 100000000) :
    Calls Try.prog 32 #[.slice A xs.length c, .int .i64 x] w fun e w' => e = .returned (.bool (decide (x ∈ xs))) ∧ w = w' := by
  obtain ⟨r, hr⟩ : ∃ r, Hid (decide (x ∈ xs) = r) := ⟨_, Lib.hid rfl⟩
  rw [hr.out]
  have RX := Lib.hid rx
  clear rx
  go_enter Try.func32, Try.ntmps32
  go_wp2_with fail
  go_loop [5] (fun i => ∃ (k : Nat), k ≤ xs.length ∧ i = .int .i64 k ∧ Hid (∀ j, j < k → xs.getD j 0 ≠ x)) (fun i => xs.length - (intOf i).toNat)
  case atStart => exact ⟨0, Nat.zero_le _, rfl, Lib.hid (fun j hj => by omega)⟩
  case round =>
    obtain ⟨k, hk, rfl, hno⟩ := hrel
    by_cases hlt : k < xs.length
    · obtain ⟨b, off, rfl, _, hcx⟩ := RX.out.at_ hlt
      have hmem := Lib.hid (mem_getD hlt)
      have hstep : Hid (xs.getD k 0 ≠ x → ∀ j, j < k + 1 → xs.getD j 0 ≠ x) := Lib.hid (fun h j hj => by
        by_cases e : j = k
        · subst e; exact h
        · exact hno.out j (by omega))
      generalize xs.getD k 0 = y at *
      have hlt2 : (k : Int) < (xs.length : Int) := by omega
      by_cases hy : y = x
      · subst hy
        have ht : r = true := by rw [← hr.out]; exact decide_eq_true hmem.out
        subst ht
        go_wp2_with fail
        go_ret
        exact ⟨rfl, rfl⟩
      · have hy2 : (y == x) = false := by simpa using hy
        go_wp2_with fail
        go_round
        case rel => exact ⟨k + 1, by omega, by go_num, Lib.hid (hstep.out hy)⟩
        case measure => simp [intOf]; omega
    · obtain rfl : k = xs.length := by omega
      have ht : r = false := by
        rw [← hr.out]
        exact decide_eq_false (fun hm => by
          obtain ⟨j, hj, e⟩ := List.getElem_of_mem hm
          exact hno.out j hj (by simp [hj, e]))
      subst ht
      go_wp2_with fail
      go_ret
      exact ⟨rfl, rfl⟩
/-- A byte of the code, or another number below 256. -/
def ByteP (w : World) (e : Ending) (w' : World) : Prop := ∃ x : Nat, e = .returned (.int .i64 x) ∧ x < 256 ∧ w = w'
set_option maxHeartbeats 1000000 in
theorem c_rAt (i : Int) (A : Option Addr) (n c : Nat) (bs : List Int) (w : World) (hc : Code8 w A n bs) (h0 : 0 ≤ i) (h1 : i ≤ 1000) :
    Calls Try.prog 30 #[.slice A n c, .int .i64 i] w (ByteP w) := by
  obtain ⟨hr, hf, hn⟩ := hc
  by_cases hlt : i < n
  · obtain ⟨k, rfl⟩ := Int.eq_ofNat_of_zero_le h0
    obtain ⟨b, off, rfl, _, hcell⟩ := hr.at_ (k := k) (by omega)
    have hkl : k < bs.length := by have := hr.len; simp at this; omega
    obtain ⟨x, hx1, hcx⟩ : ∃ x : Nat, x < 256 ∧ w.cell? ⟨b, off + k, none⟩ = some (.int .u8 x) := by
      have hx := fits_u8 hf (List.getElem_mem hkl)
      refine ⟨bs[k].toNat, by omega, ?_⟩
      rw [Int.toNat_of_nonneg hx.1]
      exact hcell k _ (by simp [List.getElem?_eq_getElem hkl])
    clear hcell
    go_enter Try.func30, Try.ntmps30
    go_wp2_with fail
    exact bodyPost_ret (results_tmp rfl _ _ _) rfl ⟨x, rfl, hx1, rfl⟩
  · have m0 : 0 ≤ (i * 11 + 3 * (n : Int)) % 256 := Int.emod_nonneg _ (by decide)
    have m1 : (i * 11 + 3 * (n : Int)) % 256 < 256 := Int.emod_lt_of_pos _ (by decide)
    obtain ⟨x, hx⟩ := Int.eq_ofNat_of_zero_le m0
    have Hx := Lib.hid hx
    have hx1 : x < 256 := by omega
    clear hx m0 m1
    go_enter Try.func30, Try.ntmps30
    go_wp2_with fail
    refine bodyPost_ret (results_tmp rfl _ _ _) rfl ?_
    exact ⟨x, ret_int Hx.out, hx1, rfl⟩
/-- A good table of values. -/
theorem hvC_cases (xs : List Int) (x : Int) : hvC xs x = ([], false) ∨ ∃ (n : Nat) (V : List Int), x = (n : Int) ∧ n ≤ 300 ∧ goodC xs = true ∧ hvC xs x = (V, true) ∧ V.length = n + 1 ∧ (∀ j, j ≤ n → V.getD j 0 = ((hV xs j : Nat) : Int) ∧ hV xs j < 256) := by
  by_cases h : goodC xs = true ∧ inB x 0 300 = true
  · obtain ⟨hg, hb⟩ := h
    obtain ⟨h0, h3⟩ := inB_true.1 hb
    obtain ⟨n, rfl⟩ := Int.eq_ofNat_of_zero_le h0
    have hn : n ≤ 300 := by omega
    rw [hvC_in hg hn]
    by_cases hm : nims (vals xs (n + 1)) = true
    · right
      refine ⟨n, _, rfl, hn, hg, valsC_yes hm, by simp [vals_len], fun j hj => ?_⟩
      have hv := hV_get xs (j := j) (n := n + 1) (by omega)
      have hjl : j < (vals xs (n + 1)).length := by rw [vals_len]; omega
      refine ⟨?_, ?_⟩
      · rw [← hv]; simp [hjl]
      · rw [← hv]
        unfold nims at hm
        rw [List.all_eq_true] at hm
        have := hm ((vals xs (n + 1)).getD j 0) (by simp [hjl])
        have := of_decide_eq_true this
        omega
    · left; unfold valsC; rw [if_neg hm]
  · left
    unfold hvC
    rw [if_neg (by simpa using h)]
set_option maxRecDepth 100000 in
set_option maxHeartbeats 6400000 in
theorem w_FnHeapValues (A : Option Addr) (n c : Nat) (bs : List Int) (w : World) (rd : RdV w A n (bs.map (Value.int .u8))) (f : Fits .u8 bs) (m : n ≤ maxLen) :
    Calls Try.prog 5 #[.slice A n c] w fun e w' => e = .returned (.bool true) ∧ Below w.heap.size w w' := by
  have HB := Lib.hid (c_rBig A n c w m)
  by_cases hn : n ≤ 65536
  · have hd : decide (65536 < (n : Int)) = false := decide_eq_false (by omega)
    rw [hd] at HB
    have HC8 : Hid (Code8 w A n bs) := Lib.hid ⟨rd, f, by omega⟩
    have HD := Lib.hid (c_DrawHeapValues A n c bs w HC8.out)
    clear rd f hd
    go_enter Try.func5, Try.ntmps5
    go_wp2_with (first | (go_at_call 18; refine HB.out.mono ?_; rintro e w' ⟨rfl, rfl⟩))
    refine HD.out.mono ?_
    rintro e w1 ⟨B, c1, xs, x, rfl, rx, lx, x0, x1, b1⟩
    have RX := Lib.hid rx
    have B1 := Lib.hid b1
    have HC := Lib.hid (c_HeapValues B c1 xs x w1 rx)
    clear rx b1 HD HB
    go_wp2_with fail
    refine HC.out.mono ?_
    rintro e w2 ⟨A2, c2, rfl, o2, b2⟩
    have R2 := Lib.hid (OwnI.rd o2)
    have B2 := Lib.hid b2
    have HS := Lib.hid (s_HeapValues B c1 xs x w2 (RX.out.below b2) (by omega))
    clear o2 b2 HC
    go_wp2_with fail
    refine HS.out.mono ?_
    rintro e w3 ⟨A3, c3, rfl, o3, b3⟩
    have R3 := Lib.hid (OwnI.rd o3)
    have R23 := Lib.hid (R2.out.below b3)
    have B13 := Lib.hid (Below.next B2.out b3)
    have B03 := Lib.hid (Below.next B1.out B13.out)
    clear o3 b3 HS R2 B2 B1
    rcases hvC_cases xs x with e1 | ⟨nn, V, rfl, hnn, hg, e1, hVl0, hVv⟩
    · rw [e1] at R3 R23 ⊢
      simp only at R3 R23 ⊢
      have HI := Lib.hid (c_rIntsT A2 A3 c2 c3 [] w3 R23.out R3.out (by simp))
      clear e1
      go_wp2_with fail
      refine HI.out.mono ?_
      rintro e w4 ⟨rfl, q4⟩
      have B04 := Lib.hid (Below.next B03.out q4.below)
      clear q4 HI
      go_wp2_with fail
      go_ret
      exact ⟨rfl, B04.out⟩
    · have hVl := Lib.hid hVl0
      clear hVl0
      rw [e1] at R3 R23 ⊢
      simp only at R3 R23 ⊢
      have HI := Lib.hid (c_rIntsT A2 A3 c2 c3 V w3 R23.out R3.out (by rw [hVl.out]; omega))
      have HV := Lib.hid hVv
      clear e1 hVv
      go_wp2_with fail
      refine HI.out.mono ?_
      rintro e w4 ⟨rfl, q4⟩
      have B04 := Lib.hid (Below.next B03.out q4.below)
      have R24 := Lib.hid (R23.out.q q4)
      have RX4 := Lib.hid (RX.out.below (Below.next B13.out q4.below))
      have HRA := Lib.hid (c_rAt 3 A n c bs w4 ⟨HC8.out.1.below B04.out, HC8.out.2.1, HC8.out.2.2⟩ (by decide) (by decide))
      clear q4 HI R3 R23 B03 B13 RX HC8
      by_cases hz : nn = 0
      · subst hz
        go_wp2_with fail
        go_ret
        exact ⟨rfl, B04.out⟩
      · have hz2 : ((nn : Int) == 0) = false := by simp; omega
        have hz3 : ¬ (nn : Int) = 0 := by omega
        go_upto_region 10 with fail
        go_cut [9] (fun v wx => ∃ (h : Nat) (wy : World), wy = wx ∧ wy = w4 ∧ v = .int .i64 h ∧ 1 ≤ h ∧ h ≤ nn)
        case first =>
          go_wp2_with fail
          refine HRA.out.mono ?_
          rintro e w' ⟨a, rfl, ha, rfl⟩
          have htm : ((a : Int)).tmod (nn : Int) = ((a % nn : Nat) : Int) := by rw [Int.tmod_eq_emod_of_nonneg (by omega)]; simp
          have hmod : a % nn < nn := Nat.mod_lt _ (by omega)
          clear HRA
          go_wp2_with fail
          go_meet
          case rel => exact ⟨a % nn + 1, _, rfl, rfl, by first | go_num | (rw [htm]; go_num) | (simp; omega), by omega, by omega⟩
        case rest =>
          obtain ⟨h, wy, rfl, hwy, rfl, hh1, hh2⟩ := hcut
          subst hwy
          clear HRA
          have e2 : hmC xs (h : Int) = (moves xs h, true) := hmC_in hg (by omega)
          have HM := Lib.hid (c_HeapMoves B c1 xs h wy RX4.out)
          rw [e2] at HM
          have hWl : (moves xs h).length ≤ 1000000 := by have := (hmC_small xs (h : Int)).1; rw [e2] at this; exact Nat.le_trans this (by decide)
          have hmm : Hid (∀ p ∈ moves xs h, p.length ≤ 2 ∧ ∀ y ∈ p, 0 ≤ y ∧ y ≤ nn) := Lib.hid (fun p hp => by
            obtain ⟨i, h1, h2, h3⟩ := mvs_mem.1 (moves_mem.1 hp)
            obtain ⟨f1, f2, f3, f4⟩ := mvK_facts h3
            refine ⟨f1, fun y hy => ?_⟩
            have := f3 y hy
            refine ⟨by omega, ?_⟩
            rcases mvK_mem.1 h3 with ⟨rfl, _, _⟩ | ⟨rfl, _, _⟩ | ⟨j, rfl, _, hj⟩
            · simp at hy
            · simp at hy; omega
            · simp only [List.mem_cons, List.not_mem_nil, or_false] at hy
              rcases hy with rfl | rfl <;> omega)
          have hnot : Hid (((hV xs h : Nat) : Int) ∉ (moves xs h).map (fun p => ((xorF xs 0 p : Nat) : Int))) := Lib.hid (fun hm => by
            obtain ⟨p, hp, e⟩ := List.mem_map.1 hm
            exact hV_not (moves_mem.1 hp) (by omega))
          have hall : Hid (∀ y : Nat, y < hV xs h → ((y : Nat) : Int) ∈ (moves xs h).map (fun p => ((xorF xs 0 p : Nat) : Int))) := Lib.hid (fun y hy => by
            obtain ⟨p, hp, e⟩ := hV_all hy
            exact List.mem_map.2 ⟨p, moves_mem.2 hp, by rw [e]⟩)
          obtain ⟨W, hW⟩ : ∃ W, moves xs h = W := ⟨_, rfl⟩
          rw [hW] at hWl hmm hnot hall HM
          have hvh := (HV.out h hh2).1
          have hvb := (HV.out h hh2).2
          clear e2 hW hg
          go_wp2_with fail
          refine HM.out.mono ?_
          rintro e w5 ⟨A5, c5, rs, rfl, o5, e5, b5⟩
          have E5 := Lib.hid e5
          have hrl : rs.length = W.length := by have := congrArg List.length e5; simpa using this
          have R5 : Hid (RdL w5 A5 W.length rs) := Lib.hid (by
            exact o5.rdm hrl)
          have B05 := Lib.hid (Below.next B04.out b5)
          have R25 := Lib.hid (R24.out.below b5)
          have hlen2 : (V.length : Int) = (nn : Int) + 1 := by rw [hVl.out]; omega
          clear o5 e5 b5 HM R24 RX4 B04 hrl
          simp only
          go_wp2_with fail
          have o0 : Hid (OwnI (w5.alloc (.cells #[] 3)) w5.heap.size (some ⟨w5.heap.size, 0, none⟩) 0 []) := Lib.hid (own_lit0 w5 3 _ (Nat.le_refl _))
          have b0 : Hid (Below w5.heap.size w5 (w5.alloc (.cells #[] 3))) := Lib.hid ((Below.refl _ _).alloc (Nat.le_refl _) _)
          go_loopg [12, 13] W.length (fun mm l i wx => ∃ (k g cap : Nat) (L : List Int) (wz : World), wz = wx ∧ k ≤ W.length ∧ mm = W.length - k ∧ i = .int .i64 k ∧ l = .slice (some ⟨g, 0, none⟩) L.length cap ∧ Hid (L = (W.take k).map (fun p => ((xorF xs 0 p : Nat) : Int))) ∧ Hid (L.length = k) ∧ Hid (OwnI wz w5.heap.size (some ⟨g, 0, none⟩) cap L) ∧ Hid (Below w5.heap.size w5 wz))
          case atStart => exact ⟨0, w5.heap.size, 0, [], _, rfl, Nat.zero_le _, rfl, rfl, rfl, Lib.hid rfl, Lib.hid rfl, o0, b0⟩
          case round =>
            obtain ⟨k, g, cap, L, wz, rfl, hk, rfl, rfl, rfl, hL, hLk, hO, hB⟩ := hrel
            clear o0 b0
            have hLle : L.length ≤ 1000000 := by rw [hLk.out]; omega
            by_cases hlt : k < W.length
            · have hltI : (k : Int) < (W.length : Int) := by omega
              have R5z := Lib.hid (RdL.below R5.out hB.out)
              have R2z := Lib.hid (R25.out.below hB.out)
              obtain ⟨b, off, rfl, _, r, _, _, e1, r1, hcx⟩ := R5z.out.at_ hlt
              have hrk : r.xs = W[k] := by rw [← e1, E5.out]; simp [hlt]
              have hpm := hmm.out r.xs (by rw [hrk]; exact List.getElem_mem hlt)
              have hL2 : Hid ((W.take (k + 1)).map (fun p => ((xorF xs 0 p : Nat) : Int)) = L ++ [((xorF xs 0 r.xs : Nat) : Int)]) := Lib.hid (by
                rw [List.take_succ_eq_append_getElem hlt, List.map_append, ← hL.out, hrk]; rfl)
              clear e1 hrk
              obtain ⟨rA, rc, p⟩ := r
              simp only [Row.rd] at hpm r1 hcx hL2
              obtain ⟨hp2, hpy⟩ := hpm
              have HPY := Lib.hid hpy
              have R1 := Lib.hid r1
              have hp2I : (p.length : Int) ≤ 2 := by omega
              clear hpy r1
              go_wp2_with fail
              go_loopg [14, 15] p.length (fun mm v j wx => ∃ (t u : Nat) (wv : World), wv = wx ∧ wv = wz ∧ t ≤ p.length ∧ mm = p.length - t ∧ j = .int .i64 t ∧ v = .int .i64 u ∧ u < 256 ∧ Hid (xorF xs u (p.drop t) = xorF xs 0 p))
              case atStart => exact ⟨0, 0, _, rfl, rfl, Nat.zero_le _, rfl, rfl, rfl, by decide, Lib.hid (by simp)⟩
              case round =>
                obtain ⟨t, u, wv, rfl, hwv, ht, rfl, rfl, rfl, hu, hrem⟩ := hrel
                subst hwv
                by_cases htl : t < p.length
                · have htI : (t : Int) < (p.length : Int) := by omega
                  obtain ⟨b3, off3, rfl, _, hcp⟩ := R1.out.at_ htl
                  have hy := HPY.out _ (mem_getD htl)
                  have hd := Lib.hid (drop_cons htl)
                  generalize p.getD t 0 = y at *
                  obtain ⟨hy0, hy1⟩ := hy
                  obtain ⟨y, rfl⟩ := Int.eq_ofNat_of_zero_le hy0
                  have hyn : y ≤ nn := by omega
                  obtain ⟨b4, off4, rfl, _, hcv⟩ := R2z.out.at_ (k := y) (by rw [hVl.out]; omega)
                  have hv := HV.out y hyn
                  rw [hv.1] at hcv
                  have hvb2 := hv.2
                  have hrem' : Hid (xorF xs (u ^^^ hV xs y) (p.drop (t + 1)) = xorF xs 0 p) := Lib.hid (by rw [← hrem.out, hd.out]; simp [xorF])
                  clear hv
                  obtain ⟨z, hzz⟩ : ∃ z, hV xs y = z := ⟨_, rfl⟩
                  rw [hzz] at hcv hvb2 hrem'
                  have hux : u ^^^ z < 256 := Nat.xor_lt_two_pow (n := 8) hu hvb2
                  have HN := Lib.hid (c_NimSumV u z wv hu hvb2)
                  clear hd hzz
                  go_wp2_with fail
                  refine HN.out.mono ?_
                  rintro e w' ⟨rfl, rfl⟩
                  clear HN
                  go_wp2_with fail
                  go_roundg (p.length - (t + 1))
                  case measure => omega
                  case rel => exact ⟨t + 1, u ^^^ z, _, rfl, rfl, by omega, rfl, by go_num, rfl, hux, hrem'⟩
                · obtain rfl : t = p.length := by omega
                  have hue : u = xorF xs 0 p := by rw [← hrem.out]; simp [xorF]
                  have hwb : w5.heap.size ≤ wv.heap.size := hB.out.size
                  rw [← hue] at hL2
                  clear hue
                  go_wp2_with (at_builtin; refine app1 _ 22 3 (.int .i64 0) 8 Try.underlying22 hI_int rfl rfl (.tmp 99) (.tmp 101) rfl w5.heap.size _ _ _ rfl hO.out (.int .i64 u) rfl rfl (by omega) (by omega) hwb ?_; intro g' cap' w' h1 h2 h3)
                  have hO2 : Hid (OwnI w' w5.heap.size (some ⟨g', 0, none⟩) cap' (L ++ [(u : Int)])) := Lib.hid (by unfold OwnI; rw [List.length_append, List.map_append]; exact h1)
                  have hB2 : Hid (Below w5.heap.size w5 w') := Lib.hid (hB.out.grown h2 hwb (fun j hj => (hO.out.lt j hj).1))
                  clear h1 h2 h3
                  go_roundg (W.length - (k + 1))
                  case measure => omega
                  case rel => exact ⟨k + 1, g', cap', L ++ [(u : Int)], _, rfl, by omega, rfl, by go_num, by simp, Lib.hid hL2.out.symm, Lib.hid (by rw [List.length_append, hLk.out]; rfl), hO2, hB2⟩
            · obtain rfl : k = W.length := by omega
              have hLe := hL.out
              rw [List.take_length] at hLe
              rw [← hLe] at hnot hall
              have R2z := Lib.hid (R25.out.below hB.out)
              have RL := Lib.hid (OwnI.rd hO.out)
              have B0z := Lib.hid (Below.next B05.out hB.out)
              obtain ⟨b4, off4, rfl, _, hcv⟩ := R2z.out.at_ (k := h) (by rw [hVl.out]; omega)
              rw [hvh] at hcv
              obtain ⟨z, hzz⟩ : ∃ z, hV xs h = z := ⟨_, rfl⟩
              rw [hzz] at hcv hvb hnot hall
              have HF := Lib.hid (c_rHas (some ⟨g, 0, none⟩) cap L z wz RL.out (by omega))
              rw [decide_eq_false hnot.out] at HF
              clear hvh hzz hL hLe hO hB hLk hVl R2z R25 R5 E5 hmm HV hnot
              go_wp2_with fail
              go_loopg [16] z (fun mm i wx => ∃ (t : Nat) (wv : World), wv = wx ∧ wv = wz ∧ t ≤ z ∧ mm = z - t ∧ i = .int .i64 t)
              case atStart => exact ⟨0, _, rfl, rfl, Nat.zero_le _, rfl, rfl⟩
              case round =>
                obtain ⟨t, wv, rfl, hwv, ht, rfl, rfl⟩ := hrel
                subst hwv
                by_cases htl : t < z
                · have htI : (t : Int) < (z : Int) := by omega
                  have HT := Lib.hid (c_rHas (some ⟨g, 0, none⟩) cap L t wv RL.out (by omega))
                  rw [decide_eq_true (hall.out t htl)] at HT
                  go_wp2_with fail
                  refine HT.out.mono ?_
                  rintro e w' ⟨rfl, rfl⟩
                  clear HT
                  go_wp2_with fail
                  go_roundg (z - (t + 1))
                  case measure => omega
                  case rel => exact ⟨t + 1, _, rfl, rfl, by omega, rfl, by go_num⟩
                · obtain rfl : t = z := by omega
                  go_wp2_with fail
                  refine HF.out.mono ?_
                  rintro e w' ⟨rfl, rfl⟩
                  clear HF
                  go_wp2_with fail
                  go_ret
                  exact ⟨rfl, B0z.out⟩
  · have hd : decide (65536 < (n : Int)) = true := decide_eq_true (by omega)
    rw [hd] at HB
    clear rd f hd
    go_enter Try.func5, Try.ntmps5
    go_wp2_with (go_at_call 18; refine HB.out.mono ?_; rintro e w' ⟨rfl, rfl⟩)
    go_ret
    exact ⟨rfl, Below.refl _ _⟩
end Go.Proofs.Ytoeacocijcammaa
