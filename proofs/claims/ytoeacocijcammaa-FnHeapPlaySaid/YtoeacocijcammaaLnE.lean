/- The program's PlayHeaps: played. -/
/- The program's PlayHeaps; the walk of its law. -/
import Derived.Test.YtoeacocijcammaaLnC
namespace Go.Proofs.Ytoeacocijcammaa
open Go.RowKit

/-- Within the program's loop. -/
structure Pm (w wx : World) (xs F0 : List Int) (g c : Nat) (ro : List Row) (r : Row) : Prop where
  out : ∃ L, Rc w wx g c ro L ∧ L ++ plays xs r.xs = plays xs F0
  far : Far wx g [r]
  cap : r.xs.length ≤ r.c
  pos : Pos r.xs
  sum : r.xs.sum ≤ 6000
  few : (ro.length : Int) + r.xs.sum ≤ 6000
theorem own_capA {w : World} {base : Nat} {E : TypeId} {A : Option Addr} {n c : Nat} {xs : List Value} (h : w.ownsRow base E 1 (.slice A n c) n xs) : n ≤ c := by
  rcases h.2 with ⟨he, h0⟩ | ⟨g, cap, cur, he, hg, hb, hle, r⟩
  · omega
  · injection he with e1 e2 e3
    omega
theorem Far.one {w : World} {g : Nat} {r : Row} (h : Far w g [r]) : r.rd w := (h r (List.mem_singleton.2 rfl)).1
theorem far_own {w w' : World} {g : Nat} {r : Row} (h : r.own w' w.heap.size) (hg : g < w.heap.size) : Far w' g [r] := fun s hs => by
  obtain rfl := List.mem_singleton.1 hs
  refine ⟨h.rd, fun _ e => ?_⟩
  have := (h.lt g e).1
  omega
theorem Pm.next {w wx w1 w2 w' : World} {xs F0 : List Int} {g c g' cap : Nat} {ro : List Row} {r nr cl : Row} (h : Pm w wx xs F0 g c ro r) (b1 : Below wx.heap.size wx w1) (b2 : Below w1.heap.size w1 w2) (hn : nextP xs r.xs = some nr.xs) (ho : nr.own w1 wx.heap.size)
    (hc : cl.own w2 w1.heap.size) (he : cl.xs = nr.xs)
    (h1 : w'.ownsRow w.heap.size 22 1 (.slice (some ⟨g', 0, none⟩) (ro.length + 1) cap) (ro.length + 1) (ro.map Row.val ++ [cl.val])) (h2 : w2.grownBy w' (some g)) (h3 : some g = some g' ∨ w2.heap.size ≤ g') : Pm w w' xs F0 g' cap (ro ++ [cl]) nr := by
  obtain ⟨L, hL, e⟩ := h.out
  obtain ⟨hp2, hs2⟩ := nextP_pos h.pos hn
  have hgx : g < wx.heap.size := (hL.own.outer.lt g rfl).2
  refine ⟨⟨L ++ [cl.xs], hL.add (Below.next b1 b2) (own_low hc b1.size) h1 h2 h3, ?_⟩, ((far_own ho hgx).below b2).after (Below.refl _ _) h2 h3, own_capA ho, hp2, ?_, ?_⟩
  · rw [← e, plays_some h.pos hn, List.append_assoc, he]; rfl
  · have := h.sum; omega
  · have := h.few; simp; omega
set_option maxRecDepth 100000 in
set_option maxHeartbeats 6400000 in
theorem c_played (bnd : Bnd) (A : Option Addr) (c : Nat) (xs : List Int) (B : Option Addr) (d : Nat) (hs : List Int) (V : Option Addr) (cv : Nat) (b1 b2 : Nat) (w : World) (rd : RdI w A xs.length xs) (hg : goodC xs = true) (rh : RdI w B hs.length hs) (rt : Tbl w V 301 xs)
    (h1 : w.cell? ⟨b1, 0, none⟩ = some (.slice A xs.length c)) (h2 : w.cell? ⟨b2, 0, none⟩ = some (.slice V 301 cv)) (hpos : Pos (fil hs)) (hsum : (fil hs).sum ≤ 6000) (hn : hs.length ≤ 6000) :
    Calls Try.prog 57 #[.slice A xs.length c, .slice B hs.length d, .func (.func 58) #[] #[.pointer (some ⟨b1, 0, none⟩), .pointer (some ⟨b2, 0, none⟩)]] w fun e w' =>
      ∃ g c' rs, e = .returned (.slice (some ⟨g, 0, none⟩) rs.length c') ∧ Rc w w' g c' rs (plays xs (fil hs)) := by
  have RD := Lib.hid rd
  have RT := Lib.hid rt
  have Hg := Lib.hid hg
  have Bn := Lib.hid bnd
  have C1 := Lib.hid h1
  have C2 := Lib.hid h2
  have HC := fun W (hb : Below w.heap.size w W) => c_filled B hs.length d hs W (rh.below hb) (by omega)
  obtain ⟨F0, hF⟩ : ∃ F, Hid (fil hs = F) := ⟨_, Lib.hid rfl⟩
  rw [hF.out] at hpos hsum HC ⊢
  have Hpos := Lib.hid hpos
  clear rd hg rh rt hpos bnd h1 h2
  go_enter Try.func57, Try.ntmps57
  go_wp2_with fail
  refine (HC _ ((Below.refl _ _).alloc (Nat.le_refl _) _)).mono ?_
  rintro e wf ⟨gf, cf, rfl, oF, bF⟩
  have hstart : Hid (Pm w wf xs F0 w.heap.size 0 [] ⟨some ⟨gf, 0, none⟩, cf, F0⟩) := Lib.hid
    ⟨⟨[], ⟨(OwnL.lit0 w _ (Nat.le_refl _)).below bF, rfl, ((Below.refl _ _).alloc (Nat.le_refl _) _).trans (bF.mono (by simp))⟩, rfl⟩,
     far_own (r := ⟨some ⟨gf, 0, none⟩, cf, F0⟩) oF (by simp), own_cap oF, Hpos.out, hsum, by simpa using hsum⟩
  clear oF bF HC Hpos hF hsum
  go_wp2_with fail
  go_loopg [1, 7] F0.sum.toNat (fun m a b wx => ∃ (g c : Nat) (ro : List Row) (r : Row) (wy : World), wy = wx ∧ a = .slice r.A r.xs.length r.c ∧ b = .slice (some ⟨g, 0, none⟩) ro.length c ∧ m = r.xs.sum.toNat ∧ Hid (Pm w wy xs F0 g c ro r))
  case atStart => exact ⟨_, _, _, _, _, rfl, rfl, rfl, rfl, hstart⟩
  case round =>
    obtain ⟨g, co, ro, ⟨rA, rc, F⟩, wy, rfl, rfl, rfl, rfl, hP⟩ := hrel
    obtain ⟨⟨L, hRc, hLp⟩, hfar, hcF, hpos, hsum, hfew⟩ := hP.out
    simp only at hcF hpos hsum hfew hLp
    have hFl : F.length ≤ 6000 := by have := hpos.len; omega
    have hrol : ro.length ≤ 6000 := by have := hpos.len; omega
    have hrd : RdI wy rA F.length F := hfar.one
    have Hpos := Lib.hid hpos
    have HRc := Lib.hid hRc
    have HRd := Lib.hid hrd
    have hB0 : w.heap.size ≤ wy.heap.size := hRc.below.size
    have HL : Hid (L ++ plays xs F = plays xs F0) := Lib.hid hLp
    have HM := c_firstMove A c xs rA rc F wy (RD.out.below hRc.below) Hg.out hrd hcF hpos (by omega)
    clear hstart hRc hfar hpos hLp hrd
    go_wp2_with fail
    refine HM.mono ?_
    rintro e w1 ⟨b3, hr⟩
    have B3 := Lib.hid b3
    rcases hr with ⟨rfl, hno⟩ | ⟨A1, c1, p, rfl, hsome, ho1⟩
    · have fin : Hid (plays xs F0 = L) := Lib.hid (by rw [← HL.out, plays_none (nextP_stop hno), List.append_nil])
      clear hno b3
      go_wp2_with fail
      go_ret
      exact ⟨g, co, ro, rfl, by rw [fin.out]; exact HRc.out.q B3.out⟩
    · have Hsome := Lib.hid hsome
      have Ho1 := Lib.hid ho1
      have BW := Lib.hid (Below.next HRc.out.below b3)
      have HB := c_best Bn.out A c xs rA rc F V cv b1 b2 w1 (RD.out.below BW.out) Hg.out (HRd.out.below b3) (RT.out.below BW.out) ((BW.out.cell (cell_lt C1.out)).trans C1.out) ((BW.out.cell (cell_lt C2.out)).trans C2.out) Hpos.out hsum
      clear b3 hsome ho1 HM
      go_wp2_with fail
      refine HB.mono ?_
      rintro e w2 ⟨g2, c2, rs2, rfl, hR2⟩
      have HB2 := Lib.hid (Below.next B3.out hR2.below)
      have HB2w := Lib.hid (Below.next BW.out hR2.below)
      cases rs2 with
      | nil =>
        have hnx : Hid (nextP xs F = some p) := Lib.hid (nextP_fst hR2.num.symm Hsome.out)
        have Hnr : Hid ((⟨A1, c1, p⟩ : Row).own w2 wy.heap.size) := Lib.hid (own_below Ho1.out hR2.below)
        have hpl : p.length ≤ 6000 := by
          have h1 := nextP_pos Hpos.out hnx.out
          have := h1.1.len; omega
        have HCl := c_clone A1 c1 p w2 (OwnI.rd Hnr.out) (by omega)
        clear hR2 Hsome Ho1 HB
        go_wp2_with fail
        refine HCl.mono ?_
        rintro e w3 ⟨A3, c3, rfl, o3, b3⟩
        have O3 := Lib.hid o3
        have B3' := Lib.hid b3
        have hB3 : w.heap.size ≤ w3.heap.size := Nat.le_trans HB2w.out.size b3.size
        have hout := Lib.hid (Rc.q (HRc.out.q HB2.out) b3).own.outer
        clear o3 b3 HCl
        go_wp2_with (at_builtin; refine app1 _ 23 22 (.slice none 0 0) 24 Try.underlying23 hI_row rfl rfl (.tmp 32) (.tmp 35) rfl w.heap.size _ _ _ rfl hout.out (.slice A3 p.length c3) rfl rfl (by omega) (by omega) hB3 ?_; intro g' cap' w' h1 h2 h3)
        have fin2 := Lib.hid (hP.out.next (nr := ⟨A1, c1, p⟩) (cl := ⟨A3, c3, p⟩) HB2.out B3'.out hnx.out Hnr.out O3.out rfl h1 h2 h3)
        have hps := (nextP_pos Hpos.out hnx.out)
        have hps1 := hps.2
        have hps0 : 0 ≤ p.sum := by have := hps.1.len; omega
        clear hps h1 h2 h3
        go_wp2_with fail
        go_roundg (p.sum.toNat)
        case measure => omega
        case rel => exact ⟨g', cap', ro ++ [⟨A3, c3, p⟩], ⟨A1, c1, p⟩, _, rfl, rfl, by simp, rfl, fin2⟩
      | cons r0 rt =>
        have hnx : Hid (nextP xs F = some r0.xs) := Lib.hid (nextP_win (l := nums rt) hR2.num.symm)
        have Hnr : Hid (r0.own w2 wy.heap.size) := Lib.hid (own_low (hR2.own.rows r0 (by simp)) B3.out.size)
        have rV := RdV.of_own hR2.own.outer
        obtain ⟨_, _, e, _, hcv⟩ := RdV.at_ rV (k := 0) (by simp)
        cases e
        have hcv := hcv 0 r0.val (by simp)
        obtain ⟨rA0, rc0, rx⟩ := r0
        simp only [Row.val, Nat.add_zero] at hcv hnx
        have hpl : rx.length ≤ 6000 := by
          have h1 := nextP_pos Hpos.out hnx.out
          have := h1.1.len; omega
        have HCl := c_clone rA0 rc0 rx w2 (OwnI.rd Hnr.out) (by omega)
        clear hR2 Hsome Ho1 HB rV
        go_wp2_with fail
        refine HCl.mono ?_
        rintro e w3 ⟨A3, c3, rfl, o3, b3⟩
        have O3 := Lib.hid o3
        have B3' := Lib.hid b3
        have hB3 : w.heap.size ≤ w3.heap.size := Nat.le_trans HB2w.out.size b3.size
        have hout := Lib.hid (Rc.q (HRc.out.q HB2.out) b3).own.outer
        clear o3 b3 HCl
        go_wp2_with (at_builtin; refine app1 _ 23 22 (.slice none 0 0) 24 Try.underlying23 hI_row rfl rfl (.tmp 32) (.tmp 35) rfl w.heap.size _ _ _ rfl hout.out (.slice A3 rx.length c3) rfl rfl (by omega) (by omega) hB3 ?_; intro g' cap' w' h1 h2 h3)
        have fin2 := Lib.hid (hP.out.next (nr := ⟨rA0, rc0, rx⟩) (cl := ⟨A3, c3, rx⟩) HB2.out B3'.out hnx.out Hnr.out O3.out rfl h1 h2 h3)
        have hps := (nextP_pos Hpos.out hnx.out)
        have hps1 := hps.2
        have hps0 : 0 ≤ rx.sum := by have := hps.1.len; omega
        clear hps h1 h2 h3
        go_wp2_with fail
        go_roundg (rx.sum.toNat)
        case measure => omega
        case rel => exact ⟨g', cap', ro ++ [⟨A3, c3, rx⟩], ⟨rA0, rc0, rx⟩, _, rfl, rfl, by simp, rfl, fin2⟩
end Go.Proofs.Ytoeacocijcammaa
namespace Go.Proofs.Ytoeacocijcammaa
open Go.RowKit

set_option maxHeartbeats 1600000 in
theorem c_PlayHeaps (bnd : Bnd) (A B : Option Addr) (c d : Nat) (xs hs : List Int) (w : World) (rd : RdI w A xs.length xs) (rh : RdI w B hs.length hs) :
    Calls Try.prog 34 #[.slice A xs.length c, .slice B hs.length d] w (OwnP w (phC xs hs)) := by
  have b0 : Below w.heap.size w (w.alloc (.cells #[.slice A xs.length c] 22)) := (Below.refl _ _).alloc (Nat.le_refl _) _
  have B0 := Lib.hid b0
  have HG := Lib.hid (c_GoodCode A c xs _ (rd.below b0))
  have HH := Lib.hid (c_goodHeaps B d hs _ (rh.below b0))
  cases hg : goodC xs
  · have fin := Lib.hid (phC_code (hs := hs) hg)
    rw [hg] at HG
    clear hg b0
    go_enter Try.func34, Try.ntmps34
    go_wp2_with (go_at_call 23; refine HG.out.mono ?_; rintro e w' ⟨rfl, rfl⟩)
    exact bodyPost_ret (results_tmp2 rfl _ _ _) rfl (OwnP.none fin.out rfl B0.out)
  · rw [hg] at HG
    cases hb : goodH hs
    · have fin := Lib.hid (phC_heaps (xs := xs) hb)
      rw [hb] at HH
      clear hg hb b0
      go_enter Try.func34, Try.ntmps34
      go_wp2_with (first | (go_at_call 23; refine HG.out.mono ?_; rintro e w' ⟨rfl, rfl⟩) | (go_at_call 56; refine HH.out.mono ?_; rintro e w' ⟨rfl, rfl⟩))
      exact bodyPost_ret (results_tmp2 rfl _ _ _) rfl (OwnP.none fin.out rfl B0.out)
    · obtain ⟨hl, hup, hrng, hsum⟩ := goodH_facts hb
      have fin := Lib.hid (phC_in hg hb)
      rw [hb] at HH
      have HV := Lib.hid (c_values_all bnd A c xs _ (rd.below b0) hg)
      have Hpos := Lib.hid (fil_pos hup (fun x hx => (hrng x hx).2))
      have hsum2 : (fil hs).sum ≤ 6000 := by rw [fil_sum hup (fun x hx => (hrng x hx).1)]; exact hsum
      have Hg := Lib.hid hg
      have Bn := Lib.hid bnd
      have RD := Lib.hid (rd.below b0)
      have RH := Lib.hid (rh.below b0)
      have C1 : Hid ((w.alloc (.cells #[.slice A xs.length c] 22)).cell? ⟨w.heap.size, 0, none⟩ = some (.slice A xs.length c)) := Lib.hid (cell_one_new w (.slice A xs.length c) 22 0 _ rfl)
      clear hg hb hup hrng rd rh b0 bnd
      go_enter Try.func34, Try.ntmps34
      go_wp2_with (first | (go_at_call 23; refine HG.out.mono ?_; rintro e w' ⟨rfl, rfl⟩) | (go_at_call 56; refine HH.out.mono ?_; rintro e w' ⟨rfl, rfl⟩))
      refine HV.out.mono ?_
      rintro e w1 ⟨V, cv, rfl, o1, b1⟩
      have O1 := Lib.hid o1
      have B1 := Lib.hid b1
      have hc1 : w1.cell? ⟨w.heap.size, 0, none⟩ = some (.slice A xs.length c) := (b1.cell (cell_lt C1.out)).trans C1.out
      have bA : Below w1.heap.size w1 (w1.alloc (.cells #[.slice V 301 cv] 22)) := (Below.refl _ _).alloc (Nat.le_refl _) _
      have hc1A := cell_alloc hc1 (.cells #[.slice V 301 cv] 22)
      have hc2A : (w1.alloc (.cells #[.slice V 301 cv] 22)).cell? ⟨w1.heap.size, 0, none⟩ = some (.slice V 301 cv) := cell_one_new w1 (.slice V 301 cv) 22 0 _ rfl
      have BA := Lib.hid (Below.next b1 bA)
      have HP := c_played Bn.out A c xs B d hs V cv w.heap.size w1.heap.size _ (RD.out.below BA.out) Hg.out (RH.out.below BA.out) ((RdV.of_own O1.out).below bA) hc1A hc2A Hpos.out hsum2 (by omega)
      clear o1 b1 bA hc1 hc2A
      go_wp2_with fail
      refine HP.mono ?_
      rintro e w2 ⟨g2, c2, rs2, rfl, hR⟩
      have HR := Lib.hid hR
      have E2 : Hid (rs2.length = (plays xs (fil hs)).length) := Lib.hid hR.len
      have BB := Lib.hid (Below.next B0.out (BA.out))
      have hle : w.heap.size ≤ (w1.alloc (.cells #[.slice V 301 cv] 22)).heap.size := BB.out.size
      clear hR
      go_wp2_with fail
      refine bodyPost_ret (results_tmp2 rfl _ _ _) rfl ⟨some ⟨g2, 0, none⟩, c2, rs2, ?_, HR.out.own.low hle, ?_, Below.next BB.out HR.out.below⟩
      · rw [fin.out]
        show _ = Ending.returned (.tuple #[.slice _ (plays xs (fil hs)).length _, .bool true])
        rw [← E2.out]; rfl
      · rw [fin.out]; exact HR.out.num
theorem phC_small (xs hs : List Int) : SmallL (phC xs hs).1 := by
  unfold phC
  split
  · rename_i h
    simp only [Bool.and_eq_true] at h
    obtain ⟨hl, hup, hrng, hsum⟩ := goodH_facts h.2
    have hp := fil_pos hup (fun x hx => (hrng x hx).2)
    have hs2 : (fil hs).sum ≤ 6000 := by rw [fil_sum hup (fun x hx => (hrng x hx).1)]; exact hsum
    have h1 := plays_len (xs := xs) hs2
    have h2 : ∀ m ∈ plays xs (fil hs), m.length ≤ 6000 := fun m hm => by
      obtain ⟨h3, h4⟩ := plays_mem hp hm
      have := h3.len; omega
    have h3 := tot_le h2
    have h4 : (plays xs (fil hs)).length ≤ 6001 := by omega
    exact ⟨by show (plays xs (fil hs)).length ≤ _; omega, fun m hm => by have := h2 m hm; omega, by show tot (plays xs (fil hs)) ≤ _; omega⟩
  · exact SmallL.nil
set_option maxRecDepth 100000 in
set_option maxHeartbeats 3200000 in
theorem w_FnExactPlayHeaps_of (A0 : Option Addr) (len0 c0 : Nat) (ys0 : List Int) (A1 : Option Addr) (len1 c1 : Nat) (ys1 : List Int) (w : World) (rd0 : RdV w A0 len0 (ys0.map (Value.int .i64))) (_f0 : Fits .i64 ys0) (_m0 : len0 ≤ maxLen) (rd1 : RdV w A1 len1 (ys1.map (Value.int .i64))) (_f1 : Fits .i64 ys1) (_m1 : len1 ≤ maxLen) (m : List (List Int) × Bool)
    (Hm : ys0.length ≤ 1048576 → ys1.length ≤ 1048576 → SmallL m.1)
    (HS : ys0.length ≤ 1048576 → ys1.length ≤ 1048576 → (∀ (g0 : Nat) (g1 : Nat) (w : World), RdI w (some ⟨g0, 0, none⟩) ys0.length ys0 → RdI w (some ⟨g1, 0, none⟩) ys1.length ys1 → Calls Try.prog 33 #[.slice (some ⟨g0, 0, none⟩) ys0.length ys0.length, .slice (some ⟨g1, 0, none⟩) ys1.length ys1.length] w (ReadP w m)))
    (HC : ys0.length ≤ 1048576 → ys1.length ≤ 1048576 → (∀ (g0 : Nat) (g1 : Nat) (w : World), RdI w (some ⟨g0, 0, none⟩) ys0.length ys0 → RdI w (some ⟨g1, 0, none⟩) ys1.length ys1 → Calls Try.prog 34 #[.slice (some ⟨g0, 0, none⟩) ys0.length ys0.length, .slice (some ⟨g1, 0, none⟩) ys1.length ys1.length] w (OwnP w m))) :
    Calls Try.prog 6 #[.slice A0 len0 c0, .slice A1 len1 c1] w fun e w' => e = .returned (.bool true) ∧ Below w.heap.size w w' := by
  have rd0 : RdI w A0 len0 ys0 := rd0
  obtain rfl := rd0.len
  have rd1 : RdI w A1 len1 ys1 := rd1
  obtain rfl := rd1.len
  clear _f0 _m0 _f1 _m1
  by_cases hn0 : ys0.length ≤ 1048576
  rotate_left
  · have hx : ¬ (ys0.length : Int) ≤ 1048576 := by omega
    have hx2 : (1048576 : Int) < (ys0.length : Int) := by omega
    go_enter Try.func6, Try.ntmps6
    go_wp2_with fail
    go_ret
    exact ⟨rfl, Below.refl _ _⟩
  by_cases hn1 : ys1.length ≤ 1048576
  rotate_left
  · have hx : ¬ (ys1.length : Int) ≤ 1048576 := by omega
    have hx2 : (1048576 : Int) < (ys1.length : Int) := by omega
    go_enter Try.func6, Try.ntmps6
    go_wp2_with fail
    go_ret
    exact ⟨rfl, Below.refl _ _⟩
  have Hm := Hm hn0 hn1
  have HS := HS hn0 hn1
  have HC := HC hn0 hn1
  obtain ⟨ms, ok⟩ := m
  obtain ⟨hl1, hl2, hl3⟩ := Hm
  simp only at hl1 hl2 hl3
  have Hl2 := Lib.hid hl2
  have Hl7 : Hid (∀ m ∈ ms, m.length ≤ 10000000) := Lib.hid (fun m hm => Nat.le_trans (hl2 m hm) (by decide))
  clear hl2
  go_enter Try.func6, Try.ntmps6
  have C0 : Below w.heap.size w w := Below.refl _ _
  go_wp2_with fail
  refine (c_toIntS _ _ _ ys0 _ (rd0.below C0) hn0).mono ?_
  rintro e v1 ⟨gv1, rfl, _, tv1, bv1⟩
  have C0 := Below.next C0 bv1
  go_wp2_with fail
  refine (c_toIntS _ _ _ ys1 _ (rd1.below C0) hn1).mono ?_
  rintro e v2 ⟨gv2, rfl, _, tv2, bv2⟩
  have C0 := Below.next C0 bv2
  have tv1 := RdI.below tv1 bv2
  go_wp2_with fail
  refine (HS _ _ _ tv1 tv2).mono ?_
  rintro e w1 ⟨A1, cc1, rs1, rfl, r1, e1, b1⟩
  have E1 := Lib.hid e1
  clear e1
  have C0 := Below.next C0 b1
  have C1 : Below w1.heap.size w1 w1 := Below.refl _ _
  have B01 : w.heap.size ≤ w1.heap.size := C0.size
  go_wp2_with fail
  refine (c_toIntS_own _ _ _ ys0 _ (rd0.below C0) hn0).mono ?_
  rintro e v3 ⟨gv3, rfl, x0, bv3⟩
  have C0 := Below.next C0 bv3
  have C1 := Below.next C1 bv3
  have X0 := x0
  have S0 : w1.heap.size ≤ v3.heap.size := C1.size
  have LP0 : w1.heap.size ≤ w1.heap.size := Nat.le_refl _
  have LO0 : w.heap.size ≤ w1.heap.size := Nat.le_trans B01 LP0
  go_wp2_with fail
  refine (c_toIntS_own _ _ _ ys1 _ (rd1.below C0) hn1).mono ?_
  rintro e v4 ⟨gv4, rfl, x1, bv4⟩
  have C0 := Below.next C0 bv4
  have C1 := Below.next C1 bv4
  have x0 := own_below x0 bv4
  have X1 := x1
  have S1 : w1.heap.size ≤ v4.heap.size := C1.size
  have LP1 : w1.heap.size ≤ v3.heap.size := S0
  have LO1 : w.heap.size ≤ v3.heap.size := Nat.le_trans B01 LP1
  go_wp2_with fail
  refine (HC _ _ _ (OwnI.rd x0) (OwnI.rd x1)).mono ?_
  rintro e w2 ⟨A2, cc2, rs2, rfl, o2, e2, b2⟩
  have E2 := Lib.hid e2
  have HL2 : Hid (rs2.length = ms.length) := Lib.hid (by have := congrArg List.length e2; simpa using this)
  clear e2
  have C0 := Below.next C0 b2
  have C1 := Below.next C1 b2
  have x0 := own_below x0 b2
  have x1 := own_below x1 b2
  have SB : w1.heap.size ≤ v4.heap.size := S1
  have LOG : w.heap.size ≤ v4.heap.size := Nat.le_trans B01 SB
  have LG0 : v3.heap.size ≤ v4.heap.size := Nat.le_trans (Nat.le_refl _) bv4.size
  have LG1 : v4.heap.size ≤ v4.heap.size := Nat.le_refl _
  go_wp2_with fail
  refine (c_eqIntSS_same _ _ _ _ _ rs2 rs1 _ (o2.rdm HL2.out) (r1.below C1) (E2.out.trans E1.out.symm) (by omega) (hlen_of Hl2.out E2.out)).mono ?_
  rintro e v5 ⟨rfl, qv5⟩
  have bv5 := qv5.below
  have C0 := Below.next C0 bv5
  have C1 := Below.next C1 bv5
  have x0 := own_below x0 bv5
  have x1 := own_below x1 bv5
  have o2 := o2.below bv5
  go_wp2_with fail
  refine (c_toIntS _ _ _ ys0 _ (rd0.below C0) hn0).mono ?_
  rintro e v6 ⟨gv6, rfl, _, tv6, bv6⟩
  have C0 := Below.next C0 bv6
  have C1 := Below.next C1 bv6
  have x0 := own_below x0 bv6
  have x1 := own_below x1 bv6
  have o2 := o2.below bv6
  go_wp2_with fail
  refine (c_eqIntS_same _ _ _ _ _ ys0 _ (OwnI.rd x0) tv6 hn0).mono ?_
  rintro e v7 ⟨rfl, qv7⟩
  have bv7 := qv7.below
  have C0 := Below.next C0 bv7
  have C1 := Below.next C1 bv7
  have x0 := own_below x0 bv7
  have x1 := own_below x1 bv7
  have o2 := o2.below bv7
  go_wp2_with fail
  refine (c_toIntS _ _ _ ys1 _ (rd1.below C0) hn1).mono ?_
  rintro e v8 ⟨gv8, rfl, _, tv8, bv8⟩
  have C0 := Below.next C0 bv8
  have C1 := Below.next C1 bv8
  have x0 := own_below x0 bv8
  have x1 := own_below x1 bv8
  have o2 := o2.below bv8
  go_wp2_with fail
  refine (c_eqIntS_same _ _ _ _ _ ys1 _ (OwnI.rd x1) tv8 hn1).mono ?_
  rintro e v9 ⟨rfl, qv9⟩
  have bv9 := qv9.below
  have C0 := Below.next C0 bv9
  have C1 := Below.next C1 bv9
  have x0 := own_below x0 bv9
  have x1 := own_below x1 bv9
  have o2 := o2.below bv9
  have hz0 : (0 : Int) ≤ 1 := by omega
  go_wp2_with fail
  refine (c_markIntS _ _ _ ys0 _ _ x0 (by omega) (by omega) (by omega)).mono ?_
  rintro e v10 ⟨rfl, _, kv10⟩
  have C0 := C0.grown kv10 C0.size (fun j hj => Nat.le_trans LO0 (x0.lt j hj).1)
  have C1 := C1.grown kv10 C1.size (fun j hj => Nat.le_trans LP0 (x0.lt j hj).1)
  have x1 := OwnI.apart x1 X0 (Nat.le_refl _) kv10
  have o2 := o2.other X0 LG0 kv10
  have hz1 : (0 : Int) ≤ 1 + (ys0.length : Int) := by omega
  go_wp2_with fail
  refine (c_markIntS _ _ _ ys1 _ _ x1 (by omega) (by omega) (by omega)).mono ?_
  rintro e v11 ⟨rfl, _, kv11⟩
  have C0 := C0.grown kv11 C0.size (fun j hj => Nat.le_trans LO1 (x1.lt j hj).1)
  have C1 := C1.grown kv11 C1.size (fun j hj => Nat.le_trans LP1 (x1.lt j hj).1)
  have o2 := o2.other X1 LG1 kv11
  have hz : (0 : Int) ≤ 1 + (ys0.length : Int) + (ys1.length : Int) := by omega
  go_wp2_with fail
  refine (c_eqIntSS_same _ _ _ _ _ rs2 rs1 _ (o2.rdm HL2.out) (r1.below C1) (E2.out.trans E1.out.symm) (by omega) (hlen_of Hl2.out E2.out)).mono ?_
  rintro e v12 ⟨rfl, qv12⟩
  have bv12 := qv12.below
  have C0 := Below.next C0 bv12
  have C1 := Below.next C1 bv12
  have o2 := o2.below bv12
  clear hz hz0 hz1
  have HM := c_markIntSS _ _ _ rs2 1 _ o2 (by rw [HL2.out]; omega) (by rw [E2.out]; exact hl3) (by rw [E2.out]; exact Hl7.out) (by decide) (by decide)
  rw [HL2.out, E2.out] at HM
  go_wp2_with fail
  refine HM.mono ?_
  rintro e v13 ⟨rfl, rs3, hl4, o3, e3, k3⟩
  have C0 := Below.trans C0 (k3.mono LOG)
  have C1 := Below.trans C1 (k3.mono SB)
  have r3 := o3.rd
  rw [hl4] at r3
  have E3 := Lib.hid e3
  have hz2 : (0 : Int) ≤ 1 + (tot ms : Int) := by omega
  clear HM
  clear e3 hl4 o3
  go_wp2_with fail
  refine (c_heldIntSS _ _ _ rs3 ms _ _ r3 E3.out (by omega) hl3 Hl7.out (by decide) (by decide)).mono ?_
  rintro e v14 ⟨rfl, rfl⟩
  go_wp2_with fail
  refine (c_toIntS _ _ _ ys0 _ (rd0.below C0) hn0).mono ?_
  rintro e v15 ⟨gv15, rfl, _, tv15, bv15⟩
  have C0 := Below.next C0 bv15
  have C1 := Below.next C1 bv15
  have r3 := r3.below bv15
  go_wp2_with fail
  refine (c_toIntS _ _ _ ys1 _ (rd1.below C0) hn1).mono ?_
  rintro e v16 ⟨gv16, rfl, _, tv16, bv16⟩
  have C0 := Below.next C0 bv16
  have C1 := Below.next C1 bv16
  have tv15 := RdI.below tv15 bv16
  have r3 := r3.below bv16
  go_wp2_with fail
  refine (HC _ _ _ tv15 tv16).mono ?_
  rintro e w4 ⟨A4, cc4, rs4, rfl, o4, e4, b4⟩
  have E4 := Lib.hid e4
  have HL4 : Hid (rs4.length = ms.length) := Lib.hid (by have := congrArg List.length e4; simpa using this)
  clear e4
  have C0 := Below.next C0 b4
  have C1 := Below.next C1 b4
  have r3 := r3.below b4
  go_wp2_with fail
  refine (c_eqIntSS_same _ _ _ _ _ rs4 rs1 _ (o4.rdm HL4.out) (r1.below C1) (E4.out.trans E1.out.symm) (by omega) (hlen_of Hl2.out E4.out)).mono ?_
  rintro e v17 ⟨rfl, qv17⟩
  have bv17 := qv17.below
  have C0 := Below.next C0 bv17
  have C1 := Below.next C1 bv17
  have r3 := r3.below bv17
  go_wp2_with fail
  refine (c_heldIntSS _ _ _ rs3 ms _ _ r3 E3.out (by omega) hl3 Hl7.out (by decide) (by decide)).mono ?_
  rintro e v18 ⟨rfl, rfl⟩
  go_wp2_with fail
  go_ret
  exact ⟨rfl, C0⟩
theorem w_FnExactPlayHeaps_of2 (bnd : Bnd) (A : Option Addr) (n c : Nat) (xs : List Int) (B : Option Addr) (m d : Nat) (hs : List Int) (w : World) (rd : RdV w A n (xs.map (Value.int .i64))) (f : Fits .i64 xs) (h : n ≤ maxLen)
    (rh : RdV w B m (hs.map (Value.int .i64))) (f' : Fits .i64 hs) (h' : m ≤ maxLen) :
    Calls Try.prog 6 #[.slice A n c, .slice B m d] w fun e w' => e = .returned (.bool true) ∧ Below w.heap.size w w' :=
  w_FnExactPlayHeaps_of A n c xs B m d hs w rd f h rh f' h' (phC xs hs) (fun _ _ => phC_small xs hs) (fun h1 h2 g0 g1 w r0 r1 => s_PlayHeaps bnd (some ⟨g0, 0, none⟩) _ (some ⟨g1, 0, none⟩) _ xs hs w r0 r1 h1 h2)
    (fun _ _ g0 g1 w r0 r1 => c_PlayHeaps bnd (some ⟨g0, 0, none⟩) (some ⟨g1, 0, none⟩) _ _ xs hs w r0 r1)
end Go.Proofs.Ytoeacocijcammaa
