/- The walk of the law on piles. -/
import Derived.Test.YtoaknbeekflnaaaNimQ
namespace Go.Proofs.Ytoaknbeekflnaaa
open Go.RowKit

def rAtV (bs : List Int) (n : Nat) (i : Int) : Int := if i < n then bs.getD i.toNat 0 else (i * 11 + 3 * (n : Int)) % 256
set_option maxHeartbeats 1000000 in
theorem c_rAtV (i : Int) (A : Option Addr) (n c : Nat) (bs : List Int) (w : World) (hc : Code8 w A n bs) (h0 : 0 ≤ i) (h1 : i ≤ 1000) :
    (0 ≤ rAtV bs n i ∧ rAtV bs n i ≤ 255) ∧ Calls Try.prog 35 #[.slice A n c, .int .i64 i] w fun e w' => e = .returned (.int .i64 (rAtV bs n i)) ∧ w' = w := by
  obtain ⟨hr, hf, hn⟩ := hc
  by_cases hlt : i < n
  · obtain ⟨k, rfl⟩ := Int.eq_ofNat_of_zero_le h0
    obtain ⟨b, off, rfl, _, hcell⟩ := hr.at_ (k := k) (by omega)
    have hkl : k < bs.length := by have := hr.len; simp at this; omega
    have hx := fits_u8 hf (List.getElem_mem hkl)
    have e : rAtV bs n (k : Int) = bs[k] := by
      rw [rAtV, if_pos hlt]; simp [hkl]
    have hcx : w.cell? ⟨b, off + k, none⟩ = some (.int .u8 bs[k]) := hcell k _ (by simp [List.getElem?_eq_getElem hkl])
    rw [e]
    generalize bs[k] = x at *
    clear hcell e
    refine ⟨hx, ?_⟩
    go_enter Try.func35, Try.ntmps35
    go_wp2_with fail
    go_ret
    exact ⟨rfl, rfl⟩
  · have m0 : 0 ≤ (i * 11 + 3 * (n : Int)) % 256 := Int.emod_nonneg _ (by decide)
    have m1 : (i * 11 + 3 * (n : Int)) % 256 < 256 := Int.emod_lt_of_pos _ (by decide)
    have e : Hid (rAtV bs n i = (i * 11 + 3 * (n : Int)) % 256) := Lib.hid (by rw [rAtV, if_neg hlt])
    refine ⟨by rw [e.out]; omega, ?_⟩
    rw [e.out]
    clear m0 m1
    go_enter Try.func35, Try.ntmps35
    go_wp2_with fail
    go_ret
    exact ⟨rfl, rfl⟩
theorem ints_one (xs : List Int) : ∀ u ∈ xs.map (Value.int .i64), u.oneCell' = true := fun u hu => by
  obtain ⟨x, _, rfl⟩ := List.mem_map.1 hu
  rfl
theorem own_at {w : World} {base g c N : Nat} {xs : List Int} (h : w.ownsRow base 3 1 (.slice (some ⟨g, 0, none⟩) N c) N (xs.map (Value.int .i64))) {i : Nat} (hi : i < N) : w.cell? ⟨g, i, none⟩ = some (.int .i64 (xs.getD i 0)) := by
  have hl : xs.length = N := by simpa using h.1
  rw [h.cellAt i (by omega), List.getElem?_map]
  have : i < xs.length := by omega
  simp [this]
set_option maxHeartbeats 4000000 in
theorem w_FnPiles (A : Option Addr) (n c : Nat) (bs : List Int) (w : World) (rd : RdV w A n (bs.map (Value.int .u8))) (f : Fits .u8 bs) (m : n ≤ maxLen) :
    Calls Try.prog 12 #[.slice A n c] w fun e w' => e = .returned (.bool true) ∧ Below w.heap.size w w' := by
  by_cases hn : n ≤ 65536
  · have hc : Code8 w A n bs := ⟨rd, f, hn⟩
    clear rd f
    go_enter Try.func12, Try.ntmps12
    go_wp2_with fail
    refine (c_rBig _ _ _ _ m).mono ?_
    rintro e w1 ⟨rfl, rfl⟩
    go_wp2_with fail
    refine (c_DrawPileMove A n c bs _ hc).mono ?_
    rintro e w1 ⟨g, cap, xs, rfl, ho, hl, hsm, hB1⟩
    have hc1 := hc.below hB1
    clear hc
    have hzero := Lib.hid (fun h => @piles_zero xs h)
    have hpos := Lib.hid (@piles_pos xs)
    have hno := Lib.hid (@fMove_no xs)
    have hrg := fPiles_rng xs
    obtain ⟨V, HV⟩ : ∃ V, Hid (fPiles xs = V) := ⟨_, Lib.hid rfl⟩
    rw [HV.out] at hzero hpos hno hrg
    obtain ⟨M, HM⟩ : ∃ M, Hid (fMove xs = M) := ⟨_, Lib.hid rfl⟩
    rw [HM.out] at hpos hno
    obtain ⟨mi, ml, mo⟩ := M
    have hr1 := ho.rd
    have HC1 := Lib.hid (c_PileMove _ cap xs w1 hr1)
    rw [HM.out] at HC1
    go_wp2_with fail
    refine HC1.out.mono ?_
    rintro e w2 ⟨rfl, q2⟩
    have HC2 := Lib.hid (s_PileMove _ cap xs w2 (hr1.q q2))
    rw [HM.out] at HC2
    go_wp2_with fail
    refine HC2.out.mono ?_
    rintro e w3 ⟨rfl, q3⟩
    have HC3 := Lib.hid (c_PilesValue _ cap xs w3 ((hr1.q q2).q q3))
    rw [HV.out] at HC3
    go_wp2_with fail
    refine HC3.out.mono ?_
    rintro e w4 ⟨rfl, q4⟩
    have HC4 := Lib.hid (s_PilesValue _ cap xs w4 (((hr1.q q2).q q3).q q4))
    rw [HV.out] at HC4
    go_wp2_with fail
    refine HC4.out.mono ?_
    rintro e w5 ⟨rfl, q5⟩
    have Q5 := ((q2.trans q3).trans q4).trans q5
    have hc5 := hc1.below Q5.below
    have ho5 := own_below ho Q5.below
    have B5 := Lib.hid (Below.next hB1 Q5.below)
    have HC5 := Lib.hid hc5
    clear HC1 HC2 HC3 HC4 hr1 q2 q3 q4 q5 Q5 hc1 hc5 ho hB1
    by_cases hv0 : V < 0
    · have e0 := hno.out (by omega)
      obtain ⟨rfl, rfl, rfl⟩ : mi = 0 ∧ ml = 0 ∧ mo = false := by simpa using e0
      clear e0
      go_wp2_with fail
      go_ret
      exact ⟨rfl, B5.out⟩
    · have hone := ints_one xs
      have hcells : ∀ j u, (xs.map (Value.int .i64))[j]? = some u → w5.cell? ((⟨g, 0, none⟩ : Addr).add j) = some u := ho5.cells rfl
      have hrd5 := OwnI.rd ho5
      have hlt5 := (ho5.lt g rfl).2
      have O5 := Lib.hid ho5
      clear ho5
      by_cases hvp : 0 < V
      · obtain ⟨i, left, hi, em, hl0, hl1, hval⟩ := hpos.out hvp
        obtain ⟨rfl, rfl, rfl⟩ : mi = (i : Int) ∧ ml = left ∧ mo = true := by simpa using em
        clear em hzero hno
        have hvp2 : ¬ V < 0 := by omega
        obtain ⟨y, hy⟩ : ∃ y, Hid (xs.getD i 0 = y) := ⟨_, Lib.hid rfl⟩
        rw [hy.out] at hl1
        have hl302 : xs.length ≤ 302 := hl
        go_wp2_with (at_builtin; refine app_copy _ 24 3 (.int .i64 0) 8 Try.underlying24 hI_int rfl rfl (.tmp 58) (.tmp 59) rfl g xs.length cap (xs.map (Value.int .i64)) (by simp) hcells hone rfl rfl (by omega) (by omega) ?_; intro g' cap' w6 h1 h2; have c1 := own_at (own_below O5.out h2) hi; rw [hy.out] at c1; have c2 := own_at h1 hi; have f2 := h1.frozenAt i; have H1 := Lib.hid h1; have H2 := Lib.hid h2; clear h1 h2)
        have hst := H1.out.stored i (.int .i64 ml)
        rw [← List.map_set] at hst
        have HPV := Lib.hid (c_PilesValue (some ⟨g', 0, none⟩) cap' (xs.set i ml) _ (by rw [List.length_set]; exact RdV.of_own hst.1))
        rw [hval, List.length_set] at HPV
        have B6 := Lib.hid ((Below.next B5.out H2.out).grown hst.2 (Below.next B5.out H2.out).size (by intro q hq; have := Option.some.inj (show some g' = some q from hq); have := (H1.out.lt g' rfl).1; have := B5.out.size; omega))
        clear c1 c2 f2 hst
        refine HPV.out.mono ?_
        rintro e w8 ⟨rfl, q8⟩
        go_wp2_with fail
        go_ret
        exact ⟨rfl, Below.next B6.out q8.below⟩
      · obtain rfl : V = 0 := by omega
        have e0 := hno.out (by omega)
        obtain ⟨rfl, rfl, rfl⟩ : mi = 0 ∧ ml = 0 ∧ mo = false := by simpa using e0
        clear e0 hpos hv0 hvp
        have hl302 : xs.length ≤ 302 := hl
        by_cases hz : 0 < xs.length
        · have hz0 : (0 : Int) < (xs.length : Int) := by omega
          have hb2 := (c_rAtV 2 A n c bs w5 HC5.out (by decide) (by decide)).1
          have HR2 := Lib.hid (fun w h => (c_rAtV 2 A n c bs w h (by decide) (by decide)).2)
          have hb3 := (c_rAtV 3 A n c bs w5 HC5.out (by decide) (by decide)).1
          have HR3 := Lib.hid (fun w h => (c_rAtV 3 A n c bs w h (by decide) (by decide)).2)
          generalize rAtV bs n 2 = r2 at *
          generalize rAtV bs n 3 = r3 at *
          have p0 : 0 ≤ r2 % (xs.length : Int) := Int.emod_nonneg _ (by omega)
          have p1 : r2 % (xs.length : Int) < (xs.length : Int) := Int.emod_lt_of_pos _ (by omega)
          obtain ⟨p, hp⟩ := Int.eq_ofNat_of_zero_le p0
          rw [hp] at p1
          clear p0
          have hpl : p < xs.length := by omega
          obtain ⟨r20, r21⟩ := hb2
          obtain ⟨r30, r31⟩ := hb3
          have hyb : xs.getD p 0 ≤ 256 := (hsm _ (by simp [hpl])).2
          obtain ⟨y, hy⟩ : ∃ y, Hid (xs.getD p 0 = y) := ⟨_, Lib.hid rfl⟩
          rw [hy.out] at hyb
          go_wp2_with (at_builtin; refine app_copy _ 24 3 (.int .i64 0) 8 Try.underlying24 hI_int rfl rfl (.tmp 58) (.tmp 59) rfl g xs.length cap (xs.map (Value.int .i64)) (by simp) hcells hone rfl rfl (by omega) (by omega) ?_; intro g' cap' w6 h1 h2; have c1 := own_at (own_below O5.out h2) hpl; rw [hy.out] at c1; have c2 := own_at h1 hpl; have f2 := h1.frozenAt p; have H1 := Lib.hid h1; have H2 := Lib.hid h2; clear h1 h2)
          have B6 := Lib.hid (Below.next B5.out H2.out)
          have HC6 := Lib.hid (HC5.out.below H2.out)
          refine (HR2.out _ HC6.out).mono ?_
          rintro e w7 ⟨rfl, rfl⟩
          by_cases hyp : 0 < y
          · have m0 : 0 ≤ r3 % y := Int.emod_nonneg _ (by omega)
            have m1 : r3 % y < y := Int.emod_lt_of_pos _ hyp
            have mt : r3.tmod y = r3 % y := Int.tmod_eq_emod_of_nonneg r30
            obtain ⟨z, hz2⟩ : ∃ z, r3 % y = z := ⟨_, rfl⟩
            rw [hz2] at m0 m1 mt
            have hfin := Lib.hid (hzero.out trivial hpl m0 (by rw [hy.out]; exact m1))
            clear hz2
            have hy0 : ¬ y = 0 := by omega
            have hy1 : (y == 0) = false := by simp [hy0]
            have hwz : IntKind.i64.wrap z = z := IntWalk.i64_in _ (by omega)
            go_upto_region 22 with fail
            refine wp_region_still_tail 10 (by kernel_rfl) (by kernel_rfl) ?_
            simp only [List.take_succ_cons, List.take_zero, List.drop_succ_cons, List.drop_zero]
            repeat still_step
            still_call (HR3.out _ HC6.out)
            repeat still_step
            try refine wpStill_nil ?_
            clear mt
            have H1d : (w7.drewN 1).ownsRow w5.heap.size 3 1 (.slice (some ⟨g', 0, none⟩) xs.length cap') xs.length (xs.map (Value.int .i64)) := H1.out
            have hst := H1d.stored p (.int .i64 z)
            rw [← List.map_set] at hst
            have HPV := Lib.hid (c_PilesValue (some ⟨g', 0, none⟩) cap' (xs.set p z) _ (by rw [List.length_set]; exact RdV.of_own hst.1))
            rw [List.length_set] at HPV
            have B7 := Lib.hid ((Below.next B6.out ((Q.refl w7).drew 1).below).grown hst.2 B6.out.size (by intro q hq; have := Option.some.inj (show some g' = some q from hq); have := (H1.out.lt g' rfl).1; have := B5.out.size; omega))
            have hpos2 := hfin.out
            generalize fPiles (xs.set p z) = F at *
            clear c1 hst H1d
            go_wp2_with fail
            refine HPV.out.mono ?_
            rintro e w8 ⟨rfl, q8⟩
            go_wp2_with fail
            go_ret
            exact ⟨rfl, Below.next B7.out q8.below⟩
          · go_wp2_with fail
            go_ret
            exact ⟨rfl, B6.out⟩
        · obtain rfl : xs = [] := List.length_eq_zero_iff.1 (by omega)
          go_wp2_with (at_builtin; refine app_copy _ 24 3 (.int .i64 0) 8 Try.underlying24 hI_int rfl rfl (.tmp 58) (.tmp 59) rfl g 0 cap [] rfl (fun j u h => by simp at h) (fun u h => by simp at h) rfl rfl (by omega) (by omega) ?_; intro g' cap' w6 h1 h2; have H2 := Lib.hid h2; clear h1 h2)
          go_ret
          exact ⟨rfl, Below.next B5.out H2.out⟩
  · go_enter Try.func12, Try.ntmps12
    go_wp2_with fail
    refine (c_rBig _ _ _ _ m).mono ?_
    rintro e w1 ⟨rfl, rfl⟩
    go_wp2_with fail
    go_ret
    exact ⟨rfl, Below.refl _ _⟩
end Go.Proofs.Ytoaknbeekflnaaa
