/- The walk of the law on texts: numbers, seals, a byte that was changed. -/
import Derived.Test.YtppaplgeecojgaaDoorNtJ
import Derived.Lib.ConvBytes
import Derived.Deep.DeepCutAuto
import Derived.StillTailTactics
namespace Go.Proofs.YtppaplgeecojgaaDoor
open Go.RowKit

theorem c_vBig (A : Option Addr) (n c : Nat) (w : World) (hm : n ≤ maxLen) :
    Calls Tryd.prog 18 #[.slice A n c] w fun e w' => e = .returned (.bool (decide (65536 < (n : Int)))) ∧ w = w' := by
  unfold maxLen at hm
  go_enter Tryd.func18, Tryd.ntmps18
  go_wp2
  go_ret
  exact ⟨rfl, rfl⟩
def vAtV (bs : List Int) (n : Nat) (i : Int) : Int := if i < n then bs.getD i.toNat 0 else (i * 7 + (n : Int)) % 256
set_option maxHeartbeats 800000 in
theorem c_vAtV (i : Int) (A : Option Addr) (n c : Nat) (bs : List Int) (w : World) (hc : Code8 w A n bs) (h0 : 0 ≤ i) (h1 : i ≤ 1000) :
    (0 ≤ vAtV bs n i ∧ vAtV bs n i ≤ 255) ∧ Calls Tryd.prog 22 #[.slice A n c, .int .i64 i] w fun e w' => e = .returned (.int .i64 (vAtV bs n i)) ∧ w' = w := by
  obtain ⟨hr, hf, hn⟩ := hc
  by_cases hlt : i < n
  · obtain ⟨k, rfl⟩ := Int.eq_ofNat_of_zero_le h0
    obtain ⟨b, off, rfl, _, hcell⟩ := hr.at_ (k := k) (by omega)
    have hkl : k < bs.length := by have := hr.len; simp at this; omega
    have hx := fits_u8 hf (List.getElem_mem hkl)
    have e : vAtV bs n (k : Int) = bs[k] := by
      rw [vAtV, if_pos hlt]; simp [hkl]
    have hcx : w.cell? ⟨b, off + k, none⟩ = some (.int .u8 bs[k]) := hcell k _ (by simp [List.getElem?_eq_getElem hkl])
    rw [e]
    generalize bs[k] = x at *
    clear hcell e
    refine ⟨hx, ?_⟩
    go_enter Tryd.func22, Tryd.ntmps22
    go_wp2_with fail
    go_ret
    exact ⟨rfl, rfl⟩
  · have m0 : 0 ≤ (i * 7 + (n : Int)) % 256 := Int.emod_nonneg _ (by decide)
    have m1 : (i * 7 + (n : Int)) % 256 < 256 := Int.emod_lt_of_pos _ (by decide)
    have e : Hid (vAtV bs n i = (i * 7 + (n : Int)) % 256) := Lib.hid (by rw [vAtV, if_neg hlt])
    refine ⟨by rw [e.out]; omega, ?_⟩
    rw [e.out]
    clear m0 m1
    go_enter Tryd.func22, Tryd.ntmps22
    go_wp2_with fail
    go_ret
    exact ⟨rfl, rfl⟩
theorem ofInt_u8 (a : Nat) (ha : a < 256) : (BitVec.ofInt 8 (a : Int)).toNat = a := by
  rw [BitVec.ofInt_natCast, BitVec.toNat_ofNat]; exact Nat.mod_eq_of_lt (by omega)
theorem u8_xor_nat (a b : Nat) (ha : a < 256) (hb : b < 256) : bits .xor .u8 (a : Int) (b : Int) = ((a ^^^ b : Nat) : Int) := by
  have hx : a ^^^ b < 2 ^ 8 := Nat.xor_lt_two_pow (by omega) (by omega)
  show IntKind.u8.wrap ((BitVec.ofInt 8 (a : Int) ^^^ BitVec.ofInt 8 (b : Int)).toNat : Int) = _
  rw [BitVec.toNat_xor, ofInt_u8 a ha, ofInt_u8 b hb]
  exact IntWalk.u8_in _ (by omega)
theorem xor_ne {a b : Nat} (hb : b ≠ 0) : a ^^^ b ≠ a := by
  intro e
  have h : a ^^^ (a ^^^ b) = a ^^^ a := by rw [e]
  rw [← Nat.xor_assoc, Nat.xor_self, Nat.zero_xor] at h
  exact hb h
/-- The numbers of a text's bytes. -/
def numsB (y : ByteArray) : List Int := y.data.toList.map fun b => (b.toNat : Int)
theorem numsB_len (y : ByteArray) : (numsB y).length = y.size := by simp [numsB]
theorem set_list (y : ByteArray) (k V : Nat) (_hV : V < 256) : (strOfNums ((numsB y).set k (V : Int))).data.toList = y.data.toList.set k (UInt8.ofNat V) := by
  show ((numsB y).set k (V : Int)).map (fun n => UInt8.ofNat n.toNat) = _
  rw [List.map_set]
  congr 1
  unfold numsB
  rw [List.map_map]
  have : ((fun n => UInt8.ofNat n.toNat) ∘ fun b : UInt8 => (b.toNat : Int)) = id := by
    funext b
    simp
  rw [this, List.map_id]
theorem seal_false {x y : ByteArray} (h : sealT x = (y, false)) : y = ByteArray.empty := by
  unfold sealT at h
  split at h
  · injection h with _ e
    cases e
  · injection h with e _
    exact e.symm
theorem numT_read {z : Int} {s : ByteArray} (h : numT z = (s, true)) : readT s = (z, true) := by
  unfold numT at h
  split at h
  · rename_i hh
    injection h with e _
    simp only [Bool.and_eq_true, decide_eq_true_eq] at hh
    exact readT_some (numOf_some.2 ⟨hh.1, hh.2, e⟩)
  · injection h with _ e
    cases e
theorem numT_size (z : Int) : (numT z).1.size ≤ 14 := by
  unfold numT
  split
  · rename_i hh
    simp only [Bool.and_eq_true, decide_eq_true_eq] at hh
    rw [strOfNums_size]
    exact numB_len (by omega) (by omega)
  · exact Nat.zero_le _
set_option maxRecDepth 20000 in
set_option maxHeartbeats 8000000 in
theorem w_FnTexts (A : Option Addr) (n c : Nat) (bs : List Int) (w : World) (rd : RdV w A n (bs.map (Value.int .u8))) (f : Fits .u8 bs) (m : n ≤ maxLen) (ht : Tab w) (hv : SynV w) :
    Calls Tryd.prog 7 #[.slice A n c] w fun e w' => e = .returned (.bool true) ∧ Below w.heap.size w w' := by
  by_cases hn : n ≤ 65536
  · have hc : Code8 w A n bs := ⟨rd, f, by omega⟩
    have h65 : ¬ (65536 : Int) < (n : Int) := by omega
    have HC := Lib.hid hc
    have HT := Lib.hid ht
    have HV := Lib.hid hv
    clear rd f hc ht hv
    go_enter Tryd.func7, Tryd.ntmps7
    go_wp2_with fail
    refine (c_vBig _ _ _ _ m).mono ?_
    rintro e w' ⟨rfl, rfl⟩
    go_wp2_with fail
    refine (c_DrawNumText A n c bs _ HC.out).mono ?_
    rintro e w1 ⟨z, rfl, z0, z1, b1⟩
    have B1 := Lib.hid b1
    obtain ⟨s, ok, hN⟩ : ∃ s ok, numT z = (s, ok) := ⟨_, _, rfl⟩
    have k1 : Hid (∀ w, Tab w → Calls Tryd.prog 11 #[.int .i64 z] w fun e w' => e = .returned (tv (s, ok)) ∧ Below w.heap.size w w') := Lib.hid (fun w h => by rw [← hN]; exact c_NumText z w h)
    have k2 : Hid (∀ w, Calls Tryd.prog 10 #[.int .i64 z] w fun e w' => e = .returned (tv (s, ok)) ∧ Q w w') := Lib.hid (fun w => by rw [← hN]; exact s_NumText z w)
    have hss : s.size ≤ 14 := by have := numT_size z; rw [hN] at this; exact this
    have hread : Hid (ok = true → readT s = (z, true)) := Lib.hid (fun e => numT_read (by rw [← e]; exact hN))
    clear b1 hN
    go_wp2_with fail
    refine (k1.out _ (HT.out.below B1.out)).mono ?_
    rintro e w2 ⟨rfl, b⟩
    have B2 := Lib.hid (Below.next B1.out b)
    clear b
    go_wp2_with fail
    refine (k2.out _).mono ?_
    rintro e w3 ⟨rfl, q⟩
    have B3 := Lib.hid (Below.next B2.out q.below)
    clear q
    go_wp2_with fail
    refine (c_DrawReadNum A n c bs _ (HC.out.below B3.out)).mono ?_
    rintro e w4 ⟨t, rfl, t30, b⟩
    have B4 := Lib.hid (Below.next B3.out b)
    obtain ⟨rz, rok, hR⟩ : ∃ rz rok, readT t = (rz, rok) := ⟨_, _, rfl⟩
    have k3 : Hid (∀ w, Tab w → SynV w → Calls Tryd.prog 17 #[.string t] w fun e w' => e = .returned (.tuple #[.int .i64 rz, .bool rok]) ∧ Below w.heap.size w w') := Lib.hid (fun w h h2 => by have := c_ReadNum t w (by omega) h h2; rw [hR] at this; exact this)
    have k4 : Hid (∀ w, Calls Tryd.prog 16 #[.string t] w fun e w' => e = .returned (.tuple #[.int .i64 rz, .bool rok]) ∧ Q w w') := Lib.hid (fun w => by have := s_ReadNum t w (by omega); rw [hR] at this; exact this)
    clear b hR
    go_wp2_with fail
    refine (k3.out _ (HT.out.below B4.out) (HV.out.below B4.out)).mono ?_
    rintro e w5 ⟨rfl, b⟩
    have B5 := Lib.hid (Below.next B4.out b)
    clear b
    go_wp2_with fail
    refine (k4.out _).mono ?_
    rintro e w6 ⟨rfl, q⟩
    have B6 := Lib.hid (Below.next B5.out q.below)
    clear q
    go_wp2_with fail
    refine (c_DrawSealText A n c bs _ (HC.out.below B6.out)).mono ?_
    rintro e w7 ⟨x, rfl, x4, b⟩
    have B7 := Lib.hid (Below.next B6.out b)
    obtain ⟨y, sealed, hS⟩ : ∃ y sealed, sealT x = (y, sealed) := ⟨_, _, rfl⟩
    have k5 : Hid (∀ w, Tab w → Calls Tryd.prog 13 #[.string x] w fun e w' => e = .returned (tv (y, sealed)) ∧ Below w.heap.size w w') := Lib.hid (fun w h => by rw [← hS]; exact c_SealText x w (by unfold maxLen; omega) h)
    have k6 : Hid (∀ w, Calls Tryd.prog 12 #[.string x] w fun e w' => e = .returned (tv (y, sealed)) ∧ Q w w') := Lib.hid (fun w => by rw [← hS]; exact s_SealText x w (by omega))
    have HS := Lib.hid hS
    clear b hS
    go_wp2_with fail
    refine (k5.out _ (HT.out.below B7.out)).mono ?_
    rintro e w8 ⟨rfl, b⟩
    have B8 := Lib.hid (Below.next B7.out b)
    clear b
    go_wp2_with fail
    refine (k6.out _).mono ?_
    rintro e w9 ⟨rfl, q⟩
    have B9 := Lib.hid (Below.next B8.out q.below)
    clear q
    obtain ⟨sz, sok, hR2⟩ : ∃ sz sok, readT s = (sz, sok) := ⟨_, _, rfl⟩
    have k7 : Hid (∀ w, Tab w → SynV w → Calls Tryd.prog 17 #[.string s] w fun e w' => e = .returned (.tuple #[.int .i64 sz, .bool sok]) ∧ Below w.heap.size w w') := Lib.hid (fun w h h2 => by have := c_ReadNum s w (by omega) h h2; rw [hR2] at this; exact this)
    have hback : Hid (ok = true → sz = z ∧ sok = true) := Lib.hid (fun e => by
      have := hread.out e
      rw [hR2] at this
      injection this with a b
      exact ⟨a, b⟩)
    clear hR2 hread
    go_wp2_with fail
    refine (k7.out _ (HT.out.below B9.out) (HV.out.below B9.out)).mono ?_
    rintro e w10 ⟨rfl, b⟩
    have B10 := Lib.hid (Below.next B9.out b)
    clear b k1 k2 k3 k4 k5 k6 k7 B1 B2 B3 B4 B5 B6 B7 B8 B9
    have hcase : (ok = false) ∨ (ok = true ∧ sz = z ∧ sok = true) := by
      cases ok
      · exact .inl rfl
      · exact .inr ⟨rfl, hback.out rfl⟩
    clear hback hss z0 z1 t30
    rcases hcase with rfl | ⟨rfl, rfl, rfl⟩
    all_goals
      go_upto_region 17 with fail
      cases sealed
      · have hy : y.toList.isEmpty = true := by rw [seal_false HS.out, ByteArray.toList_eq]; rfl
        go_wp2_with fail
        go_ret
        exact ⟨rfl, B10.out⟩
      · obtain ⟨hy, hx35, _, hy4, hop⟩ := open_seal HS.out
        have k8 : Hid (∀ w, Tab w → Calls Tryd.prog 15 #[.string y] w fun e w' => e = .returned (tv (x, true)) ∧ Below w.heap.size w w') := Lib.hid (fun w h => by rw [← hop]; exact c_OpenText y w (by unfold maxLen; omega) h)
        have HY := Lib.hid hy
        have hypos : 0 < y.size := by rw [hy, sealB_size]; omega
        clear hop hx35 HS hy
        go_wp2_with fail
        refine (k8.out _ (HT.out.below B10.out)).mono ?_
        rintro e w11 ⟨rfl, b⟩
        have B11 := Lib.hid (Below.next B10.out b)
        clear b k8 B10
        have hcv := Lib.run_convert_string_bytes (P := Tryd.prog) w11 9 29 5 y Tryd.underlying9 Tryd.underlying29 (by kernel_rfl)
        have hcell := Lib.hid (fun j hj => Lib.bytesWorld_cell w11 5 y j hj)
        have hnew := Lib.bytesWorld_at_new w11 5 y
        have hfr : Hid (∀ j, j < y.size → (Lib.bytesWorld w11 5 y).frozen? ⟨w11.heap.size, j, none⟩ = false) := Lib.hid (fun j hj => by
          have hcs : y.size ≤ (Lib.bytesCells w11 5 y).size := by simp [Lib.bytesCells]
          simp [World.frozen?, hnew]
          omega)
        have B12 := Lib.hid (Below.next B11.out (Lib.bytesWorld_below w11 5 y))
        have hg11 : w11.heap.size < (Lib.bytesWorld w11 5 y).heap.size := by rw [Lib.bytesWorld_size]; omega
        clear hnew
        have HC12 := Lib.hid (HC.out.below B12.out)
        have HR9 := Lib.hid (c_vAtV 9 A n c bs _ HC12.out (by decide) (by decide)).2
        have hb9 := (c_vAtV 9 A n c bs _ HC12.out (by decide) (by decide)).1
        have HR10 := Lib.hid (fun w h => (c_vAtV 10 A n c bs w h (by decide) (by decide)).2)
        have hb10 := (c_vAtV 10 A n c bs _ HC12.out (by decide) (by decide)).1
        have hwb : Lib.bytesWorld w11 5 y = Lib.bytesWorld w11 5 y := rfl
        go_upto_region 21 with fail
        generalize grownCap w11 y.size 0 5 = cap at *
        generalize Lib.bytesWorld w11 5 y = W at *
        have hg11' := Lib.hid hg11
        have hb11' : w.heap.size ≤ w11.heap.size := B11.out.size
        generalize w11.heap.size = g at *
        generalize vAtV bs n 9 = r9 at *
        generalize vAtV bs n 10 = r10 at *
        have m0 : 0 ≤ r9 % (y.size : Int) := Int.emod_nonneg _ (by omega)
        have m1 : r9 % (y.size : Int) < y.size := Int.emod_lt_of_pos _ (by omega)
        have mt : r9.tmod (y.size : Int) = r9 % (y.size : Int) := Int.tmod_eq_emod_of_nonneg (by omega)
        obtain ⟨k, hk⟩ := Int.eq_ofNat_of_zero_le m0
        rw [hk] at m1 mt
        have hkl : k < y.size := by omega
        have hy0 : ¬ (y.size : Int) = 0 := by omega
        have hy1 : ((y.size : Int) == 0) = false := beq_eq_false_iff_ne.2 hy0
        have hwk : IntKind.i64.wrap (k : Int) = (k : Int) := IntWalk.i64_in _ (by omega)
        clear hk m0 hcv hwb
        go_upto_region 22 with (go_at_call 22; refine HR9.out.mono ?_; rintro e wn ⟨rfl, rfl⟩)
        clear HR9 hb9 mt hy0 hy1 hwk
        obtain ⟨a, ha⟩ : ∃ a : Nat, a = (y.data.toList.getD k 0).toNat := ⟨_, rfl⟩
        have ha256 : a < 256 := by rw [ha]; exact UInt8.toNat_lt _
        have c1 := hcell.out k hkl
        rw [← ha] at c1
        have f1 := hfr.out k hkl
        have Ha := Lib.hid ha
        clear ha
        have n0 : 0 ≤ r10 % 255 := Int.emod_nonneg _ (by decide)
        have n1 : r10 % 255 < 255 := Int.emod_lt_of_pos _ (by decide)
        have nt : r10.tmod 255 = r10 % 255 := Int.tmod_eq_emod_of_nonneg (by omega)
        obtain ⟨r, hr⟩ := Int.eq_ofNat_of_zero_le n0
        rw [hr] at n1 nt
        have hwr : IntKind.i64.wrap (r : Int) = (r : Int) := IntWalk.i64_in _ (by omega)
        have hw1 : IntKind.i64.wrap (1 + (r : Int)) = 1 + (r : Int) := IntWalk.i64_in _ (by omega)
        have hw8 : IntKind.u8.wrap (1 + (r : Int)) = 1 + (r : Int) := IntWalk.u8_in _ (by omega)
        have hxor : bits .xor .u8 (a : Int) (1 + (r : Int)) = ((a ^^^ (1 + r) : Nat) : Int) := by
          have := u8_xor_nat a (1 + r) ha256 (by omega)
          simpa using this
        have hV : a ^^^ (1 + r) < 256 := Nat.xor_lt_two_pow (n := 8) (by omega) (by omega)
        have hVa : a ^^^ (1 + r) ≠ a := xor_ne (by omega)
        generalize a ^^^ (1 + r) = V at *
        clear hr n0
        refine wp_region_still_tail 13 (by kernel_rfl) (by kernel_rfl) ?_
        simp only [List.take_succ_cons, List.take_zero, List.drop_succ_cons, List.drop_zero]
        repeat still_step
        still_call (HR10.out _ HC12.out)
        repeat still_step
        try refine wpStill_nil ?_
        clear nt
        go_upto_region 23 with fail
        have hcs : ∀ j, j < y.size → (wn.setCell ⟨g, k, none⟩ (.int .u8 (V : Int))).drew.cell? ⟨g, 0 + j, none⟩ = some (.int .u8 (((numsB y).set k (V : Int)).getD j 0)) := by
          intro j hj
          rw [Nat.zero_add]
          have hjl : j < (numsB y).length := by rw [numsB_len]; exact hj
          by_cases e : j = k
          · subst e
            refine (World.cell?_setCell_same _ _ _ c1).trans ?_
            rw [List.getD_eq_getElem?_getD, List.getElem?_set_self hjl]
            rfl
          · have he : (wn.setCell ⟨g, k, none⟩ (.int .u8 (V : Int))).drew.cell? ⟨g, j, none⟩ = wn.cell? ⟨g, j, none⟩ := World.cell?_setCell_other _ _ _ _ (fun h => e (congrArg Addr.off h).symm)
            have hR : ((numsB y).set k (V : Int)).getD j 0 = (numsB y).getD j 0 := by rw [List.getD_eq_getElem?_getD, List.getElem?_set_ne (Ne.symm e), ← List.getD_eq_getElem?_getD]
            rw [he, hcell.out j hj, hR]
            have hjl2 : j < y.data.toList.length := by simpa using hj
            simp [numsB, List.getD_eq_getElem?_getD, List.getElem?_eq_getElem hjl2]
        have hcv2 := run_convert_bytes_arg (P := Tryd.prog) ((wn.setCell ⟨g, k, none⟩ (.int .u8 (V : Int))).drew) 29 5 Tryd.underlying29 (by kernel_rfl) g 0 y.size cap ((numsB y).set k (V : Int)) (by rw [List.length_set, numsB_len]) hcs 9 (by kernel_rfl)
        have B13 : Hid (Below w.heap.size w ((wn.setCell ⟨g, k, none⟩ (.int .u8 (V : Int))).drew)) := Lib.hid (by
          have h := B12.out.setCell (p := ⟨g, k, none⟩) hb11' (.int .u8 (V : Int))
          exact ⟨h.os, h.tape, h.output, h.size, h.block⟩)
        have hos : (strOfNums ((numsB y).set k (V : Int))).size = y.size := by rw [strOfNums_size, List.length_set, numsB_len]
        have hbent : Hid (∀ b, openT (strOfNums ((numsB y).set k (V : Int))) = (b, true) → b.size ≠ x.size) := Lib.hid (fun b hb => by
          have hyl : y.data.toList = sealL x.data.toList := by rw [HY.out, sealB_list]
          have hkl2 : k < (sealL x.data.toList).length := by rw [← hyl]; simpa using hkl
          refine bent hkl2 ?_ (by rw [set_list y k V hV, hyl]) hb
          intro e
          have h1 : (y.data.toList.getD k 0) = UInt8.ofNat V := by
            rw [hyl, List.getD_eq_getElem?_getD, List.getElem?_eq_getElem hkl2]; exact e
          have h2 := Ha.out
          rw [h1] at h2
          have h3 : (UInt8.ofNat V).toNat = V := by simp; omega
          omega)
        generalize strOfNums ((numsB y).set k (V : Int)) = o at *
        clear hcs c1 f1 hcell hfr hV hVa hxor hw1 hw8 hwr n1 Ha ha256 HC12 HR10 hb10
        obtain ⟨bt, bad, hO⟩ : ∃ bt bad, openT o = (bt, bad) := ⟨_, _, rfl⟩
        have k9 : Hid (∀ w, Tab w → Calls Tryd.prog 15 #[.string o] w fun e w' => e = .returned (tv (bt, bad)) ∧ Below w.heap.size w w') := Lib.hid (fun w h => by rw [← hO]; exact c_OpenText o w (by unfold maxLen; omega) h)
        have k10 : Hid (∀ w, Calls Tryd.prog 14 #[.string o] w fun e w' => e = .returned (tv (bt, bad)) ∧ Below w.heap.size w w') := Lib.hid (fun w => by rw [← hO]; exact s_OpenText o w (by omega))
        have hfin : bad = false ∨ (bad = true ∧ ¬ (bt.size : Int) = (x.size : Int)) := by
          cases bad
          · exact .inl rfl
          · refine .inr ⟨rfl, fun e => hbent.out bt hO (by omega)⟩
        clear hO hbent hos
        generalize (wn.setCell ⟨g, k, none⟩ (.int .u8 (V : Int))).drew = W2 at *
        go_wp2_with fail
        refine (k9.out _ (HT.out.below B13.out)).mono ?_
        rintro e w14 ⟨rfl, b⟩
        have B14 := Lib.hid (Below.next B13.out b)
        clear b
        go_wp2_with fail
        refine (k10.out _).mono ?_
        rintro e w15 ⟨rfl, b⟩
        have B15 := Lib.hid (Below.next B14.out b)
        clear b k9 k10
        rcases hfin with rfl | ⟨rfl, hne⟩
        · go_wp2_with fail
          go_ret
          exact ⟨rfl, B15.out⟩
        · have hne2 : ((bt.size : Int) != (x.size : Int)) = true := by simpa using hne
          go_wp2_with fail
          go_ret
          exact ⟨rfl, B15.out⟩
  · have h65 : (65536 : Int) < (n : Int) := by omega
    clear rd f
    go_enter Tryd.func7, Tryd.ntmps7
    go_wp2_with fail
    refine (c_vBig _ _ _ _ m).mono ?_
    rintro e w' ⟨rfl, rfl⟩
    go_wp2_with fail
    go_ret
    exact ⟨rfl, Below.refl _ _⟩
end Go.Proofs.YtppaplgeecojgaaDoor
