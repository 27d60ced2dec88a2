/- The program's PlayHeaps; the walk of its law. -/
import Derived.Test.YtoeacocijcammaaLnE
namespace Go.Proofs.Ytoeacocijcammaa
open Go.RowKit

set_option maxHeartbeats 1600000 in
theorem c_PlayHeaps (bnd : Bnd) (A B : Option Addr) (c d : Nat) (xs hs : List Int) (w : World) (rd : RdI w A xs.length xs) (rh : RdI w B hs.length hs) :
    Calls Try.prog 34 #[.slice A xs.length c, .slice B hs.length d] w (OwnP w (phC xs hs)) := by
  have b0 : Below w.heap.size w (w.alloc (.cells #[.slice A xs.length c] 22)) := (Below.refl _ _).alloc (Nat.le_refl _) _
  have B0 := Lib.hid b0
  have HG := Lib.hid (c_GoodCode A c xs _ (rd.below b0))
  have HH := Lib.hid (c_goodHeaps B d hs _ (rh.below b0))
  cases hg : goodC xs
  · have fin := Lib.hid (phC_code (hs := hs) hg)
    rw [hg] at HG
    clear hg b0
    go_enter Try.func34, Try.ntmps34
    go_wp2_with (go_at_call 23; refine HG.out.mono ?_; rintro e w' ⟨rfl, rfl⟩)
    exact bodyPost_ret (results_tmp2 rfl _ _ _) rfl (OwnP.none fin.out rfl B0.out)
  · rw [hg] at HG
    cases hb : goodH hs
    · have fin := Lib.hid (phC_heaps (xs := xs) hb)
      rw [hb] at HH
      clear hg hb b0
      go_enter Try.func34, Try.ntmps34
      go_wp2_with (first | (go_at_call 23; refine HG.out.mono ?_; rintro e w' ⟨rfl, rfl⟩) | (go_at_call 56; refine HH.out.mono ?_; rintro e w' ⟨rfl, rfl⟩))
      exact bodyPost_ret (results_tmp2 rfl _ _ _) rfl (OwnP.none fin.out rfl B0.out)
    · obtain ⟨hl, hup, hrng, hsum⟩ := goodH_facts hb
      have fin := Lib.hid (phC_in hg hb)
      rw [hb] at HH
      have HV := Lib.hid (c_values_all bnd A c xs _ (rd.below b0) hg)
      have Hpos := Lib.hid (fil_pos hup (fun x hx => (hrng x hx).2))
      have hsum2 : (fil hs).sum ≤ 6000 := by rw [fil_sum hup (fun x hx => (hrng x hx).1)]; exact hsum
      have Hg := Lib.hid hg
      have Bn := Lib.hid bnd
      have RD := Lib.hid (rd.below b0)
      have RH := Lib.hid (rh.below b0)
      have C1 : Hid ((w.alloc (.cells #[.slice A xs.length c] 22)).cell? ⟨w.heap.size, 0, none⟩ = some (.slice A xs.length c)) := Lib.hid (cell_one_new w (.slice A xs.length c) 22 0 _ rfl)
      clear hg hb hup hrng rd rh b0 bnd
      go_enter Try.func34, Try.ntmps34
      go_wp2_with (first | (go_at_call 23; refine HG.out.mono ?_; rintro e w' ⟨rfl, rfl⟩) | (go_at_call 56; refine HH.out.mono ?_; rintro e w' ⟨rfl, rfl⟩))
      refine HV.out.mono ?_
      rintro e w1 ⟨V, cv, rfl, o1, b1⟩
      have O1 := Lib.hid o1
      have B1 := Lib.hid b1
      have hc1 : w1.cell? ⟨w.heap.size, 0, none⟩ = some (.slice A xs.length c) := (b1.cell (cell_lt C1.out)).trans C1.out
      have bA : Below w1.heap.size w1 (w1.alloc (.cells #[.slice V 301 cv] 22)) := (Below.refl _ _).alloc (Nat.le_refl _) _
      have hc1A := cell_alloc hc1 (.cells #[.slice V 301 cv] 22)
      have hc2A : (w1.alloc (.cells #[.slice V 301 cv] 22)).cell? ⟨w1.heap.size, 0, none⟩ = some (.slice V 301 cv) := cell_one_new w1 (.slice V 301 cv) 22 0 _ rfl
      have BA := Lib.hid (Below.next b1 bA)
      have HP := c_played Bn.out A c xs B d hs V cv w.heap.size w1.heap.size _ (RD.out.below BA.out) Hg.out (RH.out.below BA.out) ((RdV.of_own O1.out).below bA) hc1A hc2A Hpos.out hsum2 (by omega)
      clear o1 b1 bA hc1 hc2A
      go_wp2_with fail
      refine HP.mono ?_
      rintro e w2 ⟨g2, c2, rs2, rfl, hR⟩
      have HR := Lib.hid hR
      have E2 : Hid (rs2.length = (plays xs (fil hs)).length) := Lib.hid hR.len
      have BB := Lib.hid (Below.next B0.out (BA.out))
      have hle : w.heap.size ≤ (w1.alloc (.cells #[.slice V 301 cv] 22)).heap.size := BB.out.size
      clear hR
      go_wp2_with fail
      refine bodyPost_ret (results_tmp2 rfl _ _ _) rfl ⟨some ⟨g2, 0, none⟩, c2, rs2, ?_, HR.out.own.low hle, ?_, Below.next BB.out HR.out.below⟩
      · rw [fin.out]
        show _ = Ending.returned (.tuple #[.slice _ (plays xs (fil hs)).length _, .bool true])
        rw [← E2.out]; rfl
      · rw [fin.out]; exact HR.out.num
theorem phC_small (xs hs : List Int) : SmallL (phC xs hs).1 := by
  unfold phC
  split
  · rename_i h
    simp only [Bool.and_eq_true] at h
    obtain ⟨hl, hup, hrng, hsum⟩ := goodH_facts h.2
    have hp := fil_pos hup (fun x hx => (hrng x hx).2)
    have hs2 : (fil hs).sum ≤ 6000 := by rw [fil_sum hup (fun x hx => (hrng x hx).1)]; exact hsum
    have h1 := plays_len (xs := xs) hs2
    have h2 : ∀ m ∈ plays xs (fil hs), m.length ≤ 6000 := fun m hm => by
      obtain ⟨h3, h4⟩ := plays_mem hp hm
      have := h3.len; omega
    have h3 := tot_le h2
    have h4 : (plays xs (fil hs)).length ≤ 6001 := by omega
    exact ⟨by show (plays xs (fil hs)).length ≤ _; omega, fun m hm => by have := h2 m hm; omega, by show tot (plays xs (fil hs)) ≤ _; omega⟩
  · exact SmallL.nil
set_option maxRecDepth 100000 in
set_option maxHeartbeats 3200000 in
theorem w_FnExactPlayHeaps_of (A0 : Option Addr) (len0 c0 : Nat) (ys0 : List Int) (A1 : Option Addr) (len1 c1 : Nat) (ys1 : List Int) (w : World) (rd0 : RdV w A0 len0 (ys0.map (Value.int .i64))) (_f0 : Fits .i64 ys0) (_m0 : len0 ≤ maxLen) (rd1 : RdV w A1 len1 (ys1.map (Value.int .i64))) (_f1 : Fits .i64 ys1) (_m1 : len1 ≤ maxLen) (m : List (List Int) × Bool)
    (Hm : ys0.length ≤ 1048576 → ys1.length ≤ 1048576 → SmallL m.1)
    (HS : ys0.length ≤ 1048576 → ys1.length ≤ 1048576 → (∀ (g0 : Nat) (g1 : Nat) (w : World), RdI w (some ⟨g0, 0, none⟩) ys0.length ys0 → RdI w (some ⟨g1, 0, none⟩) ys1.length ys1 → Calls Try.prog 33 #[.slice (some ⟨g0, 0, none⟩) ys0.length ys0.length, .slice (some ⟨g1, 0, none⟩) ys1.length ys1.length] w (ReadP w m)))
    (HC : ys0.length ≤ 1048576 → ys1.length ≤ 1048576 → (∀ (g0 : Nat) (g1 : Nat) (w : World), RdI w (some ⟨g0, 0, none⟩) ys0.length ys0 → RdI w (some ⟨g1, 0, none⟩) ys1.length ys1 → Calls Try.prog 34 #[.slice (some ⟨g0, 0, none⟩) ys0.length ys0.length, .slice (some ⟨g1, 0, none⟩) ys1.length ys1.length] w (OwnP w m))) :
    Calls Try.prog 6 #[.slice A0 len0 c0, .slice A1 len1 c1] w fun e w' => e = .returned (.bool true) ∧ Below w.heap.size w w' := by
  have rd0 : RdI w A0 len0 ys0 := rd0
  obtain rfl := rd0.len
  have rd1 : RdI w A1 len1 ys1 := rd1
  obtain rfl := rd1.len
  clear _f0 _m0 _f1 _m1
  by_cases hn0 : ys0.length ≤ 1048576
  rotate_left
  · have hx : ¬ (ys0.length : Int) ≤ 1048576 := by omega
    have hx2 : (1048576 : Int) < (ys0.length : Int) := by omega
    go_enter Try.func6, Try.ntmps6
    go_wp2_with fail
    go_ret
    exact ⟨rfl, Below.refl _ _⟩
  by_cases hn1 : ys1.length ≤ 1048576
  rotate_left
  · have hx : ¬ (ys1.length : Int) ≤ 1048576 := by omega
    have hx2 : (1048576 : Int) < (ys1.length : Int) := by omega
    go_enter Try.func6, Try.ntmps6
    go_wp2_with fail
    go_ret
    exact ⟨rfl, Below.refl _ _⟩
  have Hm := Hm hn0 hn1
  have HS := HS hn0 hn1
  have HC := HC hn0 hn1
  obtain ⟨ms, ok⟩ := m
  obtain ⟨hl1, hl2, hl3⟩ := Hm
  simp only at hl1 hl2 hl3
  have Hl2 := Lib.hid hl2
  have Hl7 : Hid (∀ m ∈ ms, m.length ≤ 10000000) := Lib.hid (fun m hm => Nat.le_trans (hl2 m hm) (by decide))
  clear hl2
  go_enter Try.func6, Try.ntmps6
  have C0 : Below w.heap.size w w := Below.refl _ _
  go_wp2_with fail
  refine (c_toIntS _ _ _ ys0 _ (rd0.below C0) hn0).mono ?_
  rintro e v1 ⟨gv1, rfl, _, tv1, bv1⟩
  have C0 := Below.next C0 bv1
  go_wp2_with fail
  refine (c_toIntS _ _ _ ys1 _ (rd1.below C0) hn1).mono ?_
  rintro e v2 ⟨gv2, rfl, _, tv2, bv2⟩
  have C0 := Below.next C0 bv2
  have tv1 := RdI.below tv1 bv2
  go_wp2_with fail
  refine (HS _ _ _ tv1 tv2).mono ?_
  rintro e w1 ⟨A1, cc1, rs1, rfl, r1, e1, b1⟩
  have E1 := Lib.hid e1
  clear e1
  have C0 := Below.next C0 b1
  have C1 : Below w1.heap.size w1 w1 := Below.refl _ _
  have B01 : w.heap.size ≤ w1.heap.size := C0.size
  go_wp2_with fail
  refine (c_toIntS_own _ _ _ ys0 _ (rd0.below C0) hn0).mono ?_
  rintro e v3 ⟨gv3, rfl, x0, bv3⟩
  have C0 := Below.next C0 bv3
  have C1 := Below.next C1 bv3
  have X0 := x0
  have S0 : w1.heap.size ≤ v3.heap.size := C1.size
  have LP0 : w1.heap.size ≤ w1.heap.size := Nat.le_refl _
  have LO0 : w.heap.size ≤ w1.heap.size := Nat.le_trans B01 LP0
  go_wp2_with fail
  refine (c_toIntS_own _ _ _ ys1 _ (rd1.below C0) hn1).mono ?_
  rintro e v4 ⟨gv4, rfl, x1, bv4⟩
  have C0 := Below.next C0 bv4
  have C1 := Below.next C1 bv4
  have x0 := own_below x0 bv4
  have X1 := x1
  have S1 : w1.heap.size ≤ v4.heap.size := C1.size
  have LP1 : w1.heap.size ≤ v3.heap.size := S0
  have LO1 : w.heap.size ≤ v3.heap.size := Nat.le_trans B01 LP1
  go_wp2_with fail
  refine (HC _ _ _ (OwnI.rd x0) (OwnI.rd x1)).mono ?_
  rintro e w2 ⟨A2, cc2, rs2, rfl, o2, e2, b2⟩
  have E2 := Lib.hid e2
  have HL2 : Hid (rs2.length = ms.length) := Lib.hid (by have := congrArg List.length e2; simpa using this)
  clear e2
  have C0 := Below.next C0 b2
  have C1 := Below.next C1 b2
  have x0 := own_below x0 b2
  have x1 := own_below x1 b2
  have SB : w1.heap.size ≤ v4.heap.size := S1
  have LOG : w.heap.size ≤ v4.heap.size := Nat.le_trans B01 SB
  have LG0 : v3.heap.size ≤ v4.heap.size := Nat.le_trans (Nat.le_refl _) bv4.size
  have LG1 : v4.heap.size ≤ v4.heap.size := Nat.le_refl _
  go_wp2_with fail
  refine (c_eqIntSS_same _ _ _ _ _ rs2 rs1 _ (o2.rdm HL2.out) (r1.below C1) (E2.out.trans E1.out.symm) (by omega) (hlen_of Hl2.out E2.out)).mono ?_
  rintro e v5 ⟨rfl, qv5⟩
  have bv5 := qv5.below
  have C0 := Below.next C0 bv5
  have C1 := Below.next C1 bv5
  have x0 := own_below x0 bv5
  have x1 := own_below x1 bv5
  have o2 := o2.below bv5
  go_wp2_with fail
  refine (c_toIntS _ _ _ ys0 _ (rd0.below C0) hn0).mono ?_
  rintro e v6 ⟨gv6, rfl, _, tv6, bv6⟩
  have C0 := Below.next C0 bv6
  have C1 := Below.next C1 bv6
  have x0 := own_below x0 bv6
  have x1 := own_below x1 bv6
  have o2 := o2.below bv6
  go_wp2_with fail
  refine (c_eqIntS_same _ _ _ _ _ ys0 _ (OwnI.rd x0) tv6 hn0).mono ?_
  rintro e v7 ⟨rfl, qv7⟩
  have bv7 := qv7.below
  have C0 := Below.next C0 bv7
  have C1 := Below.next C1 bv7
  have x0 := own_below x0 bv7
  have x1 := own_below x1 bv7
  have o2 := o2.below bv7
  go_wp2_with fail
  refine (c_toIntS _ _ _ ys1 _ (rd1.below C0) hn1).mono ?_
  rintro e v8 ⟨gv8, rfl, _, tv8, bv8⟩
  have C0 := Below.next C0 bv8
  have C1 := Below.next C1 bv8
  have x0 := own_below x0 bv8
  have x1 := own_below x1 bv8
  have o2 := o2.below bv8
  go_wp2_with fail
  refine (c_eqIntS_same _ _ _ _ _ ys1 _ (OwnI.rd x1) tv8 hn1).mono ?_
  rintro e v9 ⟨rfl, qv9⟩
  have bv9 := qv9.below
  have C0 := Below.next C0 bv9
  have C1 := Below.next C1 bv9
  have x0 := own_below x0 bv9
  have x1 := own_below x1 bv9
  have o2 := o2.below bv9
  have hz0 : (0 : Int) ≤ 1 := by omega
  go_wp2_with fail
  refine (c_markIntS _ _ _ ys0 _ _ x0 (by omega) (by omega) (by omega)).mono ?_
  rintro e v10 ⟨rfl, _, kv10⟩
  have C0 := C0.grown kv10 C0.size (fun j hj => Nat.le_trans LO0 (x0.lt j hj).1)
  have C1 := C1.grown kv10 C1.size (fun j hj => Nat.le_trans LP0 (x0.lt j hj).1)
  have x1 := OwnI.apart x1 X0 (Nat.le_refl _) kv10
  have o2 := o2.other X0 LG0 kv10
  have hz1 : (0 : Int) ≤ 1 + (ys0.length : Int) := by omega
  go_wp2_with fail
  refine (c_markIntS _ _ _ ys1 _ _ x1 (by omega) (by omega) (by omega)).mono ?_
  rintro e v11 ⟨rfl, _, kv11⟩
  have C0 := C0.grown kv11 C0.size (fun j hj => Nat.le_trans LO1 (x1.lt j hj).1)
  have C1 := C1.grown kv11 C1.size (fun j hj => Nat.le_trans LP1 (x1.lt j hj).1)
  have o2 := o2.other X1 LG1 kv11
  have hz : (0 : Int) ≤ 1 + (ys0.length : Int) + (ys1.length : Int) := by omega
  go_wp2_with fail
  refine (c_eqIntSS_same _ _ _ _ _ rs2 rs1 _ (o2.rdm HL2.out) (r1.below C1) (E2.out.trans E1.out.symm) (by omega) (hlen_of Hl2.out E2.out)).mono ?_
  rintro e v12 ⟨rfl, qv12⟩
  have bv12 := qv12.below
  have C0 := Below.next C0 bv12
  have C1 := Below.next C1 bv12
  have o2 := o2.below bv12
  clear hz hz0 hz1
  have HM := c_markIntSS _ _ _ rs2 1 _ o2 (by rw [HL2.out]; omega) (by rw [E2.out]; exact hl3) (by rw [E2.out]; exact Hl7.out) (by decide) (by decide)
  rw [HL2.out, E2.out] at HM
  go_wp2_with fail
  refine HM.mono ?_
  rintro e v13 ⟨rfl, rs3, hl4, o3, e3, k3⟩
  have C0 := Below.trans C0 (k3.mono LOG)
  have C1 := Below.trans C1 (k3.mono SB)
  have r3 := o3.rd
  rw [hl4] at r3
  have E3 := Lib.hid e3
  have hz2 : (0 : Int) ≤ 1 + (tot ms : Int) := by omega
  clear HM
  clear e3 hl4 o3
  go_wp2_with fail
  refine (c_heldIntSS _ _ _ rs3 ms _ _ r3 E3.out (by omega) hl3 Hl7.out (by decide) (by decide)).mono ?_
  rintro e v14 ⟨rfl, rfl⟩
  go_wp2_with fail
  refine (c_toIntS _ _ _ ys0 _ (rd0.below C0) hn0).mono ?_
  rintro e v15 ⟨gv15, rfl, _, tv15, bv15⟩
  have C0 := Below.next C0 bv15
  have C1 := Below.next C1 bv15
  have r3 := r3.below bv15
  go_wp2_with fail
  refine (c_toIntS _ _ _ ys1 _ (rd1.below C0) hn1).mono ?_
  rintro e v16 ⟨gv16, rfl, _, tv16, bv16⟩
  have C0 := Below.next C0 bv16
  have C1 := Below.next C1 bv16
  have tv15 := RdI.below tv15 bv16
  have r3 := r3.below bv16
  go_wp2_with fail
  refine (HC _ _ _ tv15 tv16).mono ?_
  rintro e w4 ⟨A4, cc4, rs4, rfl, o4, e4, b4⟩
  have E4 := Lib.hid e4
  have HL4 : Hid (rs4.length = ms.length) := Lib.hid (by have := congrArg List.length e4; simpa using this)
  clear e4
  have C0 := Below.next C0 b4
  have C1 := Below.next C1 b4
  have r3 := r3.below b4
  go_wp2_with fail
  refine (c_eqIntSS_same _ _ _ _ _ rs4 rs1 _ (o4.rdm HL4.out) (r1.below C1) (E4.out.trans E1.out.symm) (by omega) (hlen_of Hl2.out E4.out)).mono ?_
  rintro e v17 ⟨rfl, qv17⟩
  have bv17 := qv17.below
  have C0 := Below.next C0 bv17
  have C1 := Below.next C1 bv17
  have r3 := r3.below bv17
  go_wp2_with fail
  refine (c_heldIntSS _ _ _ rs3 ms _ _ r3 E3.out (by omega) hl3 Hl7.out (by decide) (by decide)).mono ?_
  rintro e v18 ⟨rfl, rfl⟩
  go_wp2_with fail
  go_ret
  exact ⟨rfl, C0⟩
theorem w_FnExactPlayHeaps_of2 (bnd : Bnd) (A : Option Addr) (n c : Nat) (xs : List Int) (B : Option Addr) (m d : Nat) (hs : List Int) (w : World) (rd : RdV w A n (xs.map (Value.int .i64))) (f : Fits .i64 xs) (h : n ≤ maxLen)
    (rh : RdV w B m (hs.map (Value.int .i64))) (f' : Fits .i64 hs) (h' : m ≤ maxLen) :
    Calls Try.prog 6 #[.slice A n c, .slice B m d] w fun e w' => e = .returned (.bool true) ∧ Below w.heap.size w w' :=
  w_FnExactPlayHeaps_of A n c xs B m d hs w rd f h rh f' h' (phC xs hs) (fun _ _ => phC_small xs hs) (fun h1 h2 g0 g1 w r0 r1 => s_PlayHeaps bnd (some ⟨g0, 0, none⟩) _ (some ⟨g1, 0, none⟩) _ xs hs w r0 r1 h1 h2)
    (fun _ _ g0 g1 w r0 r1 => c_PlayHeaps bnd (some ⟨g0, 0, none⟩) (some ⟨g1, 0, none⟩) _ _ xs hs w r0 r1)
end Go.Proofs.Ytoeacocijcammaa
