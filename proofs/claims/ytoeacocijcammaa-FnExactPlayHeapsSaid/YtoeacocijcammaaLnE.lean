/- The program's PlayHeaps: played. -/
import Derived.Test.YtoeacocijcammaaLnD
namespace Go.Proofs.Ytoeacocijcammaa
open Go.RowKit

/-- Within the program's loop. -/
structure Pm (w wx : World) (xs F0 : List Int) (g c : Nat) (ro : List Row) (r : Row) : Prop where
  out : ∃ L, Rc w wx g c ro L ∧ L ++ plays xs r.xs = plays xs F0
  far : Far wx g [r]
  cap : r.xs.length ≤ r.c
  pos : Pos r.xs
  sum : r.xs.sum ≤ 6000
  few : (ro.length : Int) + r.xs.sum ≤ 6000
theorem own_capA {w : World} {base : Nat} {E : TypeId} {A : Option Addr} {n c : Nat} {xs : List Value} (h : w.ownsRow base E 1 (.slice A n c) n xs) : n ≤ c := by
  rcases h.2 with ⟨he, h0⟩ | ⟨g, cap, cur, he, hg, hb, hle, r⟩
  · omega
  · injection he with e1 e2 e3
    omega
theorem Far.one {w : World} {g : Nat} {r : Row} (h : Far w g [r]) : r.rd w := (h r (List.mem_singleton.2 rfl)).1
theorem far_own {w w' : World} {g : Nat} {r : Row} (h : r.own w' w.heap.size) (hg : g < w.heap.size) : Far w' g [r] := fun s hs => by
  obtain rfl := List.mem_singleton.1 hs
  refine ⟨h.rd, fun _ e => ?_⟩
  have := (h.lt g e).1
  omega
theorem Pm.next {w wx w1 w2 w' : World} {xs F0 : List Int} {g c g' cap : Nat} {ro : List Row} {r nr cl : Row} (h : Pm w wx xs F0 g c ro r) (b1 : Below wx.heap.size wx w1) (b2 : Below w1.heap.size w1 w2) (hn : nextP xs r.xs = some nr.xs) (ho : nr.own w1 wx.heap.size)
    (hc : cl.own w2 w1.heap.size) (he : cl.xs = nr.xs)
    (h1 : w'.ownsRow w.heap.size 22 1 (.slice (some ⟨g', 0, none⟩) (ro.length + 1) cap) (ro.length + 1) (ro.map Row.val ++ [cl.val])) (h2 : w2.grownBy w' (some g)) (h3 : some g = some g' ∨ w2.heap.size ≤ g') : Pm w w' xs F0 g' cap (ro ++ [cl]) nr := by
  obtain ⟨L, hL, e⟩ := h.out
  obtain ⟨hp2, hs2⟩ := nextP_pos h.pos hn
  have hgx : g < wx.heap.size := (hL.own.outer.lt g rfl).2
  refine ⟨⟨L ++ [cl.xs], hL.add (Below.next b1 b2) (own_low hc b1.size) h1 h2 h3, ?_⟩, ((far_own ho hgx).below b2).after (Below.refl _ _) h2 h3, own_capA ho, hp2, ?_, ?_⟩
  · rw [← e, plays_some h.pos hn, List.append_assoc, he]; rfl
  · have := h.sum; omega
  · have := h.few; simp; omega
set_option maxRecDepth 100000 in
set_option maxHeartbeats 6400000 in
theorem c_played (bnd : Bnd) (A : Option Addr) (c : Nat) (xs : List Int) (B : Option Addr) (d : Nat) (hs : List Int) (V : Option Addr) (cv : Nat) (b1 b2 : Nat) (w : World) (rd : RdI w A xs.length xs) (hg : goodC xs = true) (rh : RdI w B hs.length hs) (rt : Tbl w V 301 xs)
    (h1 : w.cell? ⟨b1, 0, none⟩ = some (.slice A xs.length c)) (h2 : w.cell? ⟨b2, 0, none⟩ = some (.slice V 301 cv)) (hpos : Pos (fil hs)) (hsum : (fil hs).sum ≤ 6000) (hn : hs.length ≤ 6000) :
    Calls Try.prog 57 #[.slice A xs.length c, .slice B hs.length d, .func (.func 58) #[] #[.pointer (some ⟨b1, 0, none⟩), .pointer (some ⟨b2, 0, none⟩)]] w fun e w' =>
      ∃ g c' rs, e = .returned (.slice (some ⟨g, 0, none⟩) rs.length c') ∧ Rc w w' g c' rs (plays xs (fil hs)) := by
  have RD := Lib.hid rd
  have RT := Lib.hid rt
  have Hg := Lib.hid hg
  have Bn := Lib.hid bnd
  have C1 := Lib.hid h1
  have C2 := Lib.hid h2
  have HC := fun W (hb : Below w.heap.size w W) => c_filled B hs.length d hs W (rh.below hb) (by omega)
  obtain ⟨F0, hF⟩ : ∃ F, Hid (fil hs = F) := ⟨_, Lib.hid rfl⟩
  rw [hF.out] at hpos hsum HC ⊢
  have Hpos := Lib.hid hpos
  clear rd hg rh rt hpos bnd h1 h2
  go_enter Try.func57, Try.ntmps57
  go_wp2_with fail
  refine (HC _ ((Below.refl _ _).alloc (Nat.le_refl _) _)).mono ?_
  rintro e wf ⟨gf, cf, rfl, oF, bF⟩
  have hstart : Hid (Pm w wf xs F0 w.heap.size 0 [] ⟨some ⟨gf, 0, none⟩, cf, F0⟩) := Lib.hid
    ⟨⟨[], ⟨(OwnL.lit0 w _ (Nat.le_refl _)).below bF, rfl, ((Below.refl _ _).alloc (Nat.le_refl _) _).trans (bF.mono (by simp))⟩, rfl⟩,
     far_own (r := ⟨some ⟨gf, 0, none⟩, cf, F0⟩) oF (by simp), own_cap oF, Hpos.out, hsum, by simpa using hsum⟩
  clear oF bF HC Hpos hF hsum
  go_wp2_with fail
  go_loopg [1, 7] F0.sum.toNat (fun m a b wx => ∃ (g c : Nat) (ro : List Row) (r : Row) (wy : World), wy = wx ∧ a = .slice r.A r.xs.length r.c ∧ b = .slice (some ⟨g, 0, none⟩) ro.length c ∧ m = r.xs.sum.toNat ∧ Hid (Pm w wy xs F0 g c ro r))
  case atStart => exact ⟨_, _, _, _, _, rfl, rfl, rfl, rfl, hstart⟩
  case round =>
    obtain ⟨g, co, ro, ⟨rA, rc, F⟩, wy, rfl, rfl, rfl, rfl, hP⟩ := hrel
    obtain ⟨⟨L, hRc, hLp⟩, hfar, hcF, hpos, hsum, hfew⟩ := hP.out
    simp only at hcF hpos hsum hfew hLp
    have hFl : F.length ≤ 6000 := by have := hpos.len; omega
    have hrol : ro.length ≤ 6000 := by have := hpos.len; omega
    have hrd : RdI wy rA F.length F := hfar.one
    have Hpos := Lib.hid hpos
    have HRc := Lib.hid hRc
    have HRd := Lib.hid hrd
    have hB0 : w.heap.size ≤ wy.heap.size := hRc.below.size
    have HL : Hid (L ++ plays xs F = plays xs F0) := Lib.hid hLp
    have HM := c_firstMove A c xs rA rc F wy (RD.out.below hRc.below) Hg.out hrd hcF hpos (by omega)
    clear hstart hRc hfar hpos hLp hrd
    go_wp2_with fail
    refine HM.mono ?_
    rintro e w1 ⟨b3, hr⟩
    have B3 := Lib.hid b3
    rcases hr with ⟨rfl, hno⟩ | ⟨A1, c1, p, rfl, hsome, ho1⟩
    · have fin : Hid (plays xs F0 = L) := Lib.hid (by rw [← HL.out, plays_none (nextP_stop hno), List.append_nil])
      clear hno b3
      go_wp2_with fail
      go_ret
      exact ⟨g, co, ro, rfl, by rw [fin.out]; exact HRc.out.q B3.out⟩
    · have Hsome := Lib.hid hsome
      have Ho1 := Lib.hid ho1
      have BW := Lib.hid (Below.next HRc.out.below b3)
      have HB := c_best Bn.out A c xs rA rc F V cv b1 b2 w1 (RD.out.below BW.out) Hg.out (HRd.out.below b3) (RT.out.below BW.out) ((BW.out.cell (cell_lt C1.out)).trans C1.out) ((BW.out.cell (cell_lt C2.out)).trans C2.out) Hpos.out hsum
      clear b3 hsome ho1 HM
      go_wp2_with fail
      refine HB.mono ?_
      rintro e w2 ⟨g2, c2, rs2, rfl, hR2⟩
      have HB2 := Lib.hid (Below.next B3.out hR2.below)
      have HB2w := Lib.hid (Below.next BW.out hR2.below)
      cases rs2 with
      | nil =>
        have hnx : Hid (nextP xs F = some p) := Lib.hid (nextP_fst hR2.num.symm Hsome.out)
        have Hnr : Hid ((⟨A1, c1, p⟩ : Row).own w2 wy.heap.size) := Lib.hid (own_below Ho1.out hR2.below)
        have hpl : p.length ≤ 6000 := by
          have h1 := nextP_pos Hpos.out hnx.out
          have := h1.1.len; omega
        have HCl := c_clone A1 c1 p w2 (OwnI.rd Hnr.out) (by omega)
        clear hR2 Hsome Ho1 HB
        go_wp2_with fail
        refine HCl.mono ?_
        rintro e w3 ⟨A3, c3, rfl, o3, b3⟩
        have O3 := Lib.hid o3
        have B3' := Lib.hid b3
        have hB3 : w.heap.size ≤ w3.heap.size := Nat.le_trans HB2w.out.size b3.size
        have hout := Lib.hid (Rc.q (HRc.out.q HB2.out) b3).own.outer
        clear o3 b3 HCl
        go_wp2_with (at_builtin; refine app1 _ 23 22 (.slice none 0 0) 24 Try.underlying23 hI_row rfl rfl (.tmp 32) (.tmp 35) rfl w.heap.size _ _ _ rfl hout.out (.slice A3 p.length c3) rfl rfl (by omega) (by omega) hB3 ?_; intro g' cap' w' h1 h2 h3)
        have fin2 := Lib.hid (hP.out.next (nr := ⟨A1, c1, p⟩) (cl := ⟨A3, c3, p⟩) HB2.out B3'.out hnx.out Hnr.out O3.out rfl h1 h2 h3)
        have hps := (nextP_pos Hpos.out hnx.out)
        have hps1 := hps.2
        have hps0 : 0 ≤ p.sum := by have := hps.1.len; omega
        clear hps h1 h2 h3
        go_wp2_with fail
        go_roundg (p.sum.toNat)
        case measure => omega
        case rel => exact ⟨g', cap', ro ++ [⟨A3, c3, p⟩], ⟨A1, c1, p⟩, _, rfl, rfl, by simp, rfl, fin2⟩
      | cons r0 rt =>
        have hnx : Hid (nextP xs F = some r0.xs) := Lib.hid (nextP_win (l := nums rt) hR2.num.symm)
        have Hnr : Hid (r0.own w2 wy.heap.size) := Lib.hid (own_low (hR2.own.rows r0 (by simp)) B3.out.size)
        have rV := RdV.of_own hR2.own.outer
        obtain ⟨_, _, e, _, hcv⟩ := RdV.at_ rV (k := 0) (by simp)
        cases e
        have hcv := hcv 0 r0.val (by simp)
        obtain ⟨rA0, rc0, rx⟩ := r0
        simp only [Row.val, Nat.add_zero] at hcv hnx
        have hpl : rx.length ≤ 6000 := by
          have h1 := nextP_pos Hpos.out hnx.out
          have := h1.1.len; omega
        have HCl := c_clone rA0 rc0 rx w2 (OwnI.rd Hnr.out) (by omega)
        clear hR2 Hsome Ho1 HB rV
        go_wp2_with fail
        refine HCl.mono ?_
        rintro e w3 ⟨A3, c3, rfl, o3, b3⟩
        have O3 := Lib.hid o3
        have B3' := Lib.hid b3
        have hB3 : w.heap.size ≤ w3.heap.size := Nat.le_trans HB2w.out.size b3.size
        have hout := Lib.hid (Rc.q (HRc.out.q HB2.out) b3).own.outer
        clear o3 b3 HCl
        go_wp2_with (at_builtin; refine app1 _ 23 22 (.slice none 0 0) 24 Try.underlying23 hI_row rfl rfl (.tmp 32) (.tmp 35) rfl w.heap.size _ _ _ rfl hout.out (.slice A3 rx.length c3) rfl rfl (by omega) (by omega) hB3 ?_; intro g' cap' w' h1 h2 h3)
        have fin2 := Lib.hid (hP.out.next (nr := ⟨rA0, rc0, rx⟩) (cl := ⟨A3, c3, rx⟩) HB2.out B3'.out hnx.out Hnr.out O3.out rfl h1 h2 h3)
        have hps := (nextP_pos Hpos.out hnx.out)
        have hps1 := hps.2
        have hps0 : 0 ≤ rx.sum := by have := hps.1.len; omega
        clear hps h1 h2 h3
        go_wp2_with fail
        go_roundg (rx.sum.toNat)
        case measure => omega
        case rel => exact ⟨g', cap', ro ++ [⟨A3, c3, rx⟩], ⟨rA0, rc0, rx⟩, _, rfl, rfl, by simp, rfl, fin2⟩
end Go.Proofs.Ytoeacocijcammaa
