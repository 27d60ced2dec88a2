/- The reference's PlayHeaps. -/
/- The reference's PlayHeaps: the walk. -/
import Derived.Test.YtoeacocijcammaaLmA
import Derived.Test.YtoeacocijcammaaLmE
import Derived.Test.YtoeacocijcammaaMvP
namespace Go.Proofs.Ytoeacocijcammaa
open Go.RowKit

def phC (xs hs : List Int) : List (List Int) × Bool := if goodC xs && goodH hs then (plays xs (fil hs), true) else ([], false)
theorem phC_code {xs hs : List Int} (h : goodC xs = false) : phC xs hs = ([], false) := by simp [phC, h]
theorem phC_heaps {xs hs : List Int} (h : goodH hs = false) : phC xs hs = ([], false) := by simp [phC, h]
theorem phC_in {xs hs : List Int} (h : goodC xs = true) (h2 : goodH hs = true) : phC xs hs = (plays xs (fil hs), true) := by simp [phC, h, h2]
theorem fst_cons {xs F : List Int} {i r : Nat} {m : List Int} {l : List (List Int)} (h : moves xs (F.getD i 0).toNat = m :: l) : fstF xs F (r + 1) i = some (aft F i m) := by unfold fstF; rw [h]
theorem fst_nil {xs F : List Int} {i r : Nat} (h : moves xs (F.getD i 0).toNat = []) : fstF xs F (r + 1) i = fstF xs F r (i + 1) := by
  conv => lhs; unfold fstF
  rw [h]
/-- A heap's row that is read, with room, not in block g. -/
def Hp (w : World) (g : Nat) (r : Row) : Prop := Far w g [r] ∧ r.xs.length ≤ r.c ∧ ∃ b o, r.A = some ⟨b, o, none⟩
theorem Hp.rd {w : World} {g : Nat} {r : Row} (h : Hp w g r) : r.rd w := (h.1 r (List.mem_singleton.2 rfl)).1
theorem srtR_after {F : List Int} {i : Nat} {m : List Int} (hp : ∀ x ∈ F, 1 ≤ x) (hm : ∀ x ∈ m, 1 ≤ x) : srtR [] (F.take i ++ F.drop (i + 1) ++ m) = aft F i m := by
  rw [srtR_pos]; rfl
  intro x hx
  simp only [List.mem_append] at hx
  rcases hx with (h | h) | h
  · exact hp x (List.mem_of_mem_take h)
  · exact hp x (List.mem_of_mem_drop h)
  · exact hm x h
theorem Hp.below {w w' : World} {g : Nat} {r : Row} (h : Hp w g r) (hb : Below w.heap.size w w') : Hp w' g r := ⟨h.1.below hb, h.2⟩
theorem Hp.after {w w1 w' : World} {g g' : Nat} {r : Row} (h : Hp w g r) (hb : Below w.heap.size w w1) (hg : w1.grownBy w' (some g)) (h3 : some g = some g' ∨ w1.heap.size ≤ g') : Hp w' g' r := ⟨h.1.after hb hg h3, h.2⟩
/-- Rows that are read, in a row of the call's own. -/
structure Rw (w wx : World) (g c : Nat) (rs : List Row) (L : List (List Int)) : Prop where
  own : wx.ownsRow w.heap.size 22 1 (.slice (some ⟨g, 0, none⟩) rs.length c) rs.length (rs.map Row.val)
  far : Far wx g rs
  num : nums rs = L
  below : Below w.heap.size w wx
  addr : ∀ r ∈ rs, ∃ b o, r.A = some ⟨b, o, none⟩
theorem Rw.len {w wx : World} {g c : Nat} {rs : List Row} {L : List (List Int)} (h : Rw w wx g c rs L) : rs.length = L.length := by rw [← h.num]; simp
theorem Rw.q {w wx wy : World} {g c : Nat} {rs : List Row} {L : List (List Int)} (h : Rw w wx g c rs L) (hb : Below wx.heap.size wx wy) : Rw w wy g c rs L := ⟨own_below h.own hb, h.far.below hb, h.num, Below.next h.below hb, h.addr⟩
theorem Rw.add {w wx w' : World} {g c g' cap : Nat} {rs : List Row} {L : List (List Int)} {r : Row} (h : Rw w wx g c rs L) (hr : Hp wx g r)
    (h1 : w'.ownsRow w.heap.size 22 1 (.slice (some ⟨g', 0, none⟩) (rs.length + 1) cap) (rs.length + 1) (rs.map Row.val ++ [r.val])) (h2 : wx.grownBy w' (some g)) (h3 : some g = some g' ∨ wx.heap.size ≤ g') : Rw w w' g' cap (rs ++ [r]) (L ++ [r.xs]) := by
  refine ⟨by simpa using h1, fun s hs => ?_, by unfold nums; rw [List.map_append]; exact congrArg (· ++ [r.xs]) h.num, h.below.grown h2 h.below.size (fun j hj => by
    have := Option.some.inj hj
    have := (h.own.lt g rfl).1
    omega), fun s hs => ?_⟩
  · rcases List.mem_append.1 hs with hs | hs
    · exact (h.far.after (Below.refl _ _) h2 h3) s hs
    · obtain rfl := List.mem_singleton.1 hs
      exact (hr.1.after (Below.refl _ _) h2 h3) s (List.mem_singleton.2 rfl)
  · rcases List.mem_append.1 hs with hs | hs
    · exact h.addr s hs
    · obtain rfl := List.mem_singleton.1 hs
      exact hr.2.2
theorem Hp.new {wx : World} {g : Nat} {r : Row} (hr : r.rd wx) (hl : r.xs.length ≤ r.c) (hA : ∃ b o, r.A = some ⟨b, o, none⟩) (hg : ∀ b o, r.A = some ⟨b, o, none⟩ → b ≠ g) : Hp wx g r :=
  ⟨fun s hs => by
    obtain rfl := List.mem_singleton.1 hs
    refine ⟨hr, fun _ e => ?_⟩
    obtain ⟨b, o, hA⟩ := hA
    have : s.blk = some b := by unfold Row.blk Row.val; rw [hA]; rfl
    rw [this] at e
    exact hg b o hA (Option.some.inj e), hl, hA⟩
end Go.Proofs.Ytoeacocijcammaa
namespace Go.Proofs.Ytoeacocijcammaa
open Go.RowKit

/-- Within the reference's loop. -/
structure Pl (w wx : World) (V : Option Addr) (N : Nat) (xs F0 : List Int) (g c : Nat) (ro : List Row) (r : Row) : Prop where
  out : ∃ L, Rw w wx g c ro L ∧ L ++ plays xs r.xs = plays xs F0
  hp : Hp wx g r
  pos : Pos r.xs
  sum : r.xs.sum ≤ 6000
  max : ∀ x ∈ r.xs, x < N
  few : (ro.length : Int) + r.xs.sum ≤ 6000
theorem aft_max {xs F : List Int} {i : Nat} {m : List Int} {N : Nat} (hp : Pos F) (hi : i < F.length) (hm : m ∈ moves xs (F.getD i 0).toNat) (hN : ∀ x ∈ F, x < (N : Int)) : ∀ x ∈ aft F i m, x < (N : Int) := by
  intro x hx
  have h0 : F.getD i 0 ∈ F := by simp [hi]
  have h1 := hp.2 _ h0
  have h2 := hN _ h0
  rcases aft_mem hx with h | h
  · exact hN x h
  · have := (mvs_facts (moves_mem.1 hm)).2.2 x h; omega
theorem next_max {xs F p : List Int} {N : Nat} (hp : Pos F) (h : nextP xs F = some p) (hN : ∀ x ∈ F, x < (N : Int)) : ∀ x ∈ p, x < (N : Int) := by
  obtain ⟨i, m, hi, hm, rfl⟩ := nextP_facts h
  exact aft_max hp hi hm hN
theorem Rw.out_own {w wx : World} {g c : Nat} {rs : List Row} {L : List (List Int)} (h : Rw w wx g c rs L) : g < wx.heap.size := (h.own.lt g rfl).2

theorem Far.fresh {w : World} {g : Nat} {r : Row} (h : r.rd w) (hg : w.heap.size ≤ g) : Far w g [r] := fun s hs => by
  obtain rfl := List.mem_singleton.1 hs
  refine ⟨h, fun hn e => ?_⟩
  obtain ⟨k, e2, hk⟩ := row_blk_lt h hn
  rw [e2] at e
  have := Option.some.inj e
  omega
theorem Rw.start (w : World) : Rw w (w.alloc (.cells #[] 22)) w.heap.size 0 [] [] :=
  ⟨own_lit0 w _ _ (Nat.le_refl _), fun r hr => by simp at hr, rfl, (Below.refl _ _).alloc (Nat.le_refl _) _, fun r hr => by simp at hr⟩
/-- A row of memory made behind g. -/
theorem Hp.later {wx : World} {g : Nat} {r : Row} (h : r.rd wx) (hl : r.xs.length ≤ r.c) {b o : Nat} (hA : r.A = some ⟨b, o, none⟩) (hg : b ≠ g) : Hp wx g r :=
  Hp.new h hl ⟨b, o, hA⟩ (fun b' o' e => by rw [hA] at e; cases e; exact hg)
/-- The rows of what was put, none in g: a slice read in a world before g's block was there would not do, so by their making. -/
theorem Pl.next {w wx w' : World} {V : Option Addr} {N : Nat} {xs F0 : List Int} {g c g' cap : Nat} {ro : List Row} {r nr : Row} {wy : World} (h : Pl w wx V N xs F0 g c ro r) (b : Below wx.heap.size wx wy) (hn : nextP xs r.xs = some nr.xs) (hp : Hp wy g nr)
    (h1 : w'.ownsRow w.heap.size 22 1 (.slice (some ⟨g', 0, none⟩) (ro.length + 1) cap) (ro.length + 1) (ro.map Row.val ++ [nr.val])) (h2 : wy.grownBy w' (some g)) (h3 : some g = some g' ∨ wy.heap.size ≤ g') : Pl w w' V N xs F0 g' cap (ro ++ [nr]) nr := by
  obtain ⟨L, hL, e⟩ := h.out
  obtain ⟨hp2, hs2⟩ := nextP_pos h.pos hn
  refine ⟨⟨L ++ [nr.xs], (hL.q b).add hp h1 h2 h3, ?_⟩, hp.after (Below.refl _ _) h2 h3, hp2, ?_, next_max h.pos hn h.max, ?_⟩
  · rw [← e, plays_some h.pos hn, List.append_assoc]; rfl
  · have := h.sum; omega
  · have := h.few; simp; omega
set_option maxRecDepth 100000 in
set_option maxHeartbeats 6400000 in
theorem s_PlayHeaps (bnd : Bnd) (A : Option Addr) (c : Nat) (B : Option Addr) (d : Nat) (xs hs : List Int) (w : World) (rd : RdI w A xs.length xs) (rh : RdI w B hs.length hs) (hn : xs.length ≤ 1048576) (hm : hs.length ≤ 1048576) :
    Calls Try.prog 33 #[.slice A xs.length c, .slice B hs.length d] w (ReadP w (phC xs hs)) := by
  have HG := Lib.hid (s_GoodCode A c xs w rd (by omega))
  have HH := Lib.hid (s_l17Heaps B d hs w rh hm)
  cases hg : goodC xs
  · have fin := Lib.hid (phC_code (hs := hs) hg)
    rw [hg] at HG
    clear hg
    go_enter Try.func33, Try.ntmps33
    go_wp2_with (go_at_call 22; refine HG.out.mono ?_; rintro e w' ⟨rfl, rfl⟩)
    exact bodyPost_ret (results_tmp2 rfl _ _ _) rfl (ReadP.none fin.out rfl (Below.refl _ _))
  · rw [hg] at HG
    cases hb : goodH hs
    · have fin := Lib.hid (phC_heaps (xs := xs) hb)
      rw [hb] at HH
      clear hg hb
      go_enter Try.func33, Try.ntmps33
      go_wp2_with (first | (go_at_call 22; refine HG.out.mono ?_; rintro e w' ⟨rfl, rfl⟩) | (go_at_call 51; refine HH.out.mono ?_; rintro e w' ⟨rfl, q⟩))
      exact bodyPost_ret (results_tmp2 rfl _ _ _) rfl (ReadP.none fin.out rfl q.below)
    · obtain ⟨hl, hup, hrng, hsum⟩ := goodH_facts hb
      have fin := Lib.hid (phC_in hg hb)
      have hF0 : Hid (srtR [] hs = fil hs) := Lib.hid (by rw [srtR_eq (fun x hx => (hrng x hx).1), srt_of_up (fil_up hup)])
      have hposF := Lib.hid (fil_pos hup (fun x hx => (hrng x hx).2))
      have hsumF : (fil hs).sum ≤ 6000 := by rw [fil_sum hup (fun x hx => (hrng x hx).1)]; exact hsum
      have HsumF := Lib.hid hsumF
      rw [hb] at HH
      have Hg := Lib.hid hg
      have Hb := Lib.hid hb
      have RD := Lib.hid rd
      have RH := Lib.hid rh
      have Bn := Lib.hid bnd
      clear hg hb hup hrng rd rh hsum hsumF bnd
      go_enter Try.func33, Try.ntmps33
      go_wp2_with (first | (go_at_call 22; refine HG.out.mono ?_; rintro e w' ⟨rfl, rfl⟩) | (go_at_call 51; refine HH.out.mono ?_; rintro e w' ⟨rfl, ⟨nq, rfl⟩⟩))
      have q : Q w (w.drewN nq) := ⟨nq, rfl⟩
      refine (s_l17Known A B c d xs hs _ (RD.out.q q) (RH.out.q q) Hg.out Hb.out).mono ?_
      rintro e w1 ⟨V, N, cap, rfl, rt, hN, hmx, b1⟩
      have RT := Lib.hid rt
      have Hmx := Lib.hid (fun x (hx : x ∈ fil hs) => hmx x (fil_mem.1 hx).1)
      have B1 := Lib.hid (Below.next q.below b1)
      have HSo := s_l17Sorted B hs.length d hs w1 (RH.out.below B1.out) (by omega)
      rw [hF0.out] at HSo
      clear rt hmx b1 q
      go_wp2_with fail
      refine HSo.mono ?_
      rintro e w2 ⟨v2, rfl, g2, o2, c2, rfl, r2, hc2, b2, -⟩
      have R2 := Lib.hid r2
      have B2 := Lib.hid (Below.next B1.out b2)
      have RT2 := Lib.hid (RT.out.below b2)
      have RD2 := Lib.hid (RD.out.below B2.out)
      obtain ⟨F0, hF⟩ : ∃ F0, Hid (fil hs = F0) := ⟨_, Lib.hid rfl⟩
      rw [hF.out] at R2 Hmx hposF HsumF hc2 fin ⊢
      have hstart : Hid (Pl w2 (w2.alloc (.cells #[] 22)) V N xs F0 w2.heap.size 0 [] ⟨some ⟨g2, o2, none⟩, c2, F0⟩) := Lib.hid
        ⟨⟨[], Rw.start w2, rfl⟩, ⟨(Far.fresh (r := ⟨some ⟨g2, o2, none⟩, c2, F0⟩) R2.out (Nat.le_refl _)).below ((Below.refl _ _).alloc (Nat.le_refl _) _), hc2, ⟨g2, o2, rfl⟩⟩, hposF.out, HsumF.out, Hmx.out, by simp; exact HsumF.out⟩
      clear r2 b2 HSo HG HH RH Hb
      go_wp2_with fail
      go_loopg [7, 8] F0.sum.toNat (fun m a b wx => ∃ (g c : Nat) (ro : List Row) (r : Row) (wy : World), wy = wx ∧ a = .slice r.A r.xs.length r.c ∧ b = .slice (some ⟨g, 0, none⟩) ro.length c ∧ m = r.xs.sum.toNat ∧ Hid (Pl w2 wy V N xs F0 g c ro r))
      case atStart => exact ⟨_, _, _, _, _, rfl, rfl, rfl, rfl, hstart⟩
      case round =>
        obtain ⟨g, co, ro, ⟨rA, rc, F⟩, wy, rfl, rfl, rfl, rfl, hP⟩ := hrel
        obtain ⟨⟨L, hRw, hLp⟩, hHp, hpos, hsum, hmax, hfew⟩ := hP.out
        obtain ⟨ga, oa, hA⟩ := hHp.2.2
        have hcF : F.length ≤ rc := hHp.2.1
        have hrd := hHp.rd
        simp only at hA hcF hrd hpos hsum hmax hfew hLp
        subst hA
        have hFl : F.length ≤ 6000 := by have := hpos.len; omega
        have HpF := Lib.hid hHp
        have Hpos := Lib.hid hpos
        have HRw := Lib.hid hRw
        have hrol : ro.length ≤ 6000 := by have := hpos.len; omega
        have HW := s_l17Winning Bn.out A c xs V N cap ga oa F.length rc F wy (RD2.out.below hRw.below) Hg.out (RT2.out.below hRw.below) hN hrd hcF (fun x hx => ⟨by have := (hpos.2 x hx).1; omega, hmax x hx⟩) hsum (by omega)
        have HRd := Lib.hid hrd
        have finL : Hid (L ++ plays xs F = plays xs F0) := Lib.hid hLp
        clear hstart hRw hHp hrd hpos hmax hLp HsumF Hmx hposF R2 hF
        go_wp2_with fail
        refine HW.mono ?_
        rintro e w3 ⟨v3, rfl, g3, o3, c3, rs3, rfl, hr3, hc3, hL3, hb3, _, hm3, hA3⟩
        have eW : nums rs3 = win xs F := by rw [hL3, winR_eq Hpos.out.1 (fun x hx => by have := (Hpos.out.2 x hx).1; omega), fil_of_pos Hpos.out]
        have hgw : g < wy.heap.size := HRw.out.out_own
        have HRw3 := Lib.hid (HRw.out.q hb3)
        have HpF3 := Lib.hid (HpF.out.below hb3)
        have HRd3 := Lib.hid (HRd.out.below hb3)
        have HB3 := Lib.hid hb3
        cases rs3 with
        | cons r0 rt0 =>
          have hnx : Hid (nextP xs F = some r0.xs) := Lib.hid (nextP_win (l := nums rt0) (by rw [← eW]; rfl))
          have hp0 : (0 : Int) < (F.length : Int) := by
            obtain ⟨i, _, hi, _⟩ := nextP_facts hnx.out
            omega
          have hp0n : 0 < F.length := by omega
          obtain ⟨⟨b0, o0, e0, hb0⟩, hl0⟩ := hA3 r0 (by simp)
          have hr0 : Hid (Hp w3 g r0) := Lib.hid (Hp.later (hr3.2 r0 (by simp)) hl0 e0 (by omega))
          have Bq : Below w3.heap.size w3 (w3.alloc (.cells #[] 3)) := (Below.refl _ _).alloc (Nat.le_refl _) _
          obtain ⟨_, _, e, _, hcv⟩ := RdV.at_ (hr3.1.below Bq) (k := 0) (by simp)
          cases e
          have hcv := hcv 0 r0.val (by simp)
          obtain ⟨rA, rc0, rx⟩ := r0
          simp only [Row.val, Nat.add_zero] at hcv
          simp only at e0
          subst e0
          clear hr3 hc3 hL3 hb3 hm3 hA3 eW hb0
          go_wp2_with fail
          refine wp_loop_rounds 1 ?_
          rw [rounds_succ]
          have Bq2 := Lib.hid (Below.next HB3.out Bq)
          have hrq := Lib.hid (hr0.out.below Bq)
          have hout := Lib.hid (HRw3.out.q Bq).own
          have hBq : w2.heap.size ≤ (w3.alloc (.cells #[] 3)).heap.size := (HRw3.out.q Bq).below.size
          clear Bq HRw3 hr0
          go_wp2_with (at_builtin; refine app1n _ (w3.heap.size + 1) (by simp) 23 22 (.slice none 0 0) 24 Try.underlying23 hI_row rfl rfl (.tmp 68) (.tmp 70) rfl w2.heap.size _ _ _ rfl hout.out (.slice (some ⟨b0, o0, none⟩) rx.length rc0) rfl rfl (by omega) (by omega) hBq ?_; intro g' cap' w' h1 h2 h3)
          have fin2 := Lib.hid (hP.out.next Bq2.out (nr := ⟨some ⟨b0, o0, none⟩, rc0, rx⟩) hnx.out hrq.out h1 h2 h3)
          have hps := (nextP_pos Hpos.out hnx.out)
          have hps1 := hps.2
          have hps0 : 0 ≤ rx.sum := by have := hps.1.len; omega
          clear hps h1 h2 h3
          go_wp2_with fail
          go_roundg (rx.sum.toNat)
          case measure => omega
          case rel => exact ⟨g', cap', ro ++ [⟨some ⟨b0, o0, none⟩, rc0, rx⟩], ⟨some ⟨b0, o0, none⟩, rc0, rx⟩, _, rfl, rfl, by simp, rfl, fin2⟩
        | nil =>
          have hW0 : Hid (win xs F = []) := Lib.hid eW.symm
          have hgw3 : g < w3.heap.size := HRw3.out.out_own
          clear hr3 hc3 hL3 hb3 hm3 hA3 eW
          go_wp2_with fail
          go_loopg [10, 11, 12] F.length (fun m nx dn ii wx => ∃ (k : Nat) (wz : World), wz = wx ∧ k ≤ F.length ∧ m = F.length - k ∧ ii = .int .i64 k ∧ Hid (Below w3.heap.size w3 wz) ∧
            ((dn = .bool false ∧ nx = .slice (some ⟨w3.heap.size, 0, none⟩) 0 0 ∧ Hid (fstF xs F (F.length - k) k = firstMv xs F)) ∨
             (dn = .bool true ∧ ∃ b o rc0 rx, nx = .slice (some ⟨b, o, none⟩) rx.length rc0 ∧ Hid (firstMv xs F = some rx) ∧ Hid (Hp wz g ⟨some ⟨b, o, none⟩, rc0, rx⟩))))
          case atStart => exact ⟨0, _, rfl, Nat.zero_le _, rfl, rfl, Lib.hid ((Below.refl _ _).alloc (Nat.le_refl _) _), .inl ⟨rfl, rfl, Lib.hid rfl⟩⟩
          case round =>
            obtain ⟨k, wz, rfl, hk, rfl, rfl, bz, hst⟩ := hrel
            rcases hst with ⟨rfl, rfl, hft⟩ | ⟨rfl, b, o, rc0, rx, rfl, hfm, hnr⟩
            · by_cases hlt : k < F.length
              · have hltI : (k : Int) < (F.length : Int) := by omega
                have rF : RdI wz (some ⟨ga, oa, none⟩) F.length F := HRd3.out.below bz.out
                obtain ⟨_, _, e, _, hcx⟩ := rF.at_ hlt
                cases e
                have hy2 := Hpos.out.2 _ (mem_getD hlt)
                obtain ⟨t, ht⟩ : ∃ t : Nat, F.getD k 0 = (t : Int) := Int.eq_ofNat_of_zero_le (by omega)
                have ht3 : t ≤ 300 := by omega
                rw [ht] at hcx
                have Ht := Lib.hid ht
                have HM := s_l17Moves A c xs t wz ((RD2.out.below (Below.next HRw3.out.below bz.out))) Hg.out ht3
                have RF := Lib.hid rF
                have hsz := bz.out.size
                clear rF ht hy2 hltI
                have hltI : (k : Int) < (F.length : Int) := by omega
                go_wp2_with fail
                refine HM.mono ?_
                rintro e w4 ⟨v4, rfl, g4, o4, c4, rs4, rfl, hr4, hc4, hL4, hb4, _, hm4, hA4⟩
                have eM : nums rs4 = moves xs t := hL4
                have bw := Lib.hid (Below.next bz.out hb4)
                cases rs4 with
                | nil =>
                  have hnx : Hid (fstF xs F (F.length - (k + 1)) (k + 1) = firstMv xs F) := Lib.hid (by
                    rw [← hft.out, show F.length - k = (F.length - (k + 1)) + 1 by omega]
                    exact (fst_nil (by rw [Ht.out]; exact eM.symm)).symm)
                  clear hr4 hc4 hL4 hb4 hm4 hA4 eM
                  go_wp2_with fail
                  go_roundg (F.length - (k + 1))
                  case measure => omega
                  case rel => exact ⟨k + 1, _, rfl, by omega, rfl, by go_num, bw, .inl ⟨rfl, rfl, hnx⟩⟩
                | cons m0 mt =>
                  have hnx : Hid (firstMv xs F = some (aft F k m0.xs)) := Lib.hid (by
                    rw [← hft.out, show F.length - k = (F.length - (k + 1)) + 1 by omega]
                    exact fst_cons (l := nums mt) (by rw [Ht.out]; exact eM.symm))
                  obtain ⟨⟨b0, o0, e0, hb0⟩, hl0⟩ := hA4 m0 (by simp)
                  obtain ⟨_, _, e, _, hcv⟩ := RdV.at_ hr4.1 (k := 0) (by simp)
                  cases e
                  have hcv := hcv 0 m0.val (by simp)
                  have hm0 := hr4.2 m0 (by simp)
                  have hmf := mvs_facts (moves_mem.1 (show m0.xs ∈ moves xs t by rw [← eM]; simp))
                  have hsrt : Hid (srtR [] (F.take k ++ F.drop (k + 1) ++ m0.xs) = aft F k m0.xs) := Lib.hid (srtR_after (fun x hx => (Hpos.out.2 x hx).1) (fun x hx => (hmf.2.2 x hx).1))
                  obtain ⟨rA, rc0, rx⟩ := m0
                  simp only [Row.val, Row.rd, Nat.add_zero] at hcv e0 hm0 hmf hsrt hnx
                  subst e0
                  have HA := s_l17After ga oa F.length rc F k ⟨b0, o0, none⟩ rx.length rc0 rx w4 (RF.out.below hb4) hcF hlt hm0 (by omega) (by omega)
                  rw [hsrt.out] at HA
                  have hs4 := hb4.size
                  clear hr4 hc4 hL4 hb4 hm4 hA4 eM hmf hm0 hb0
                  go_wp2_with fail
                  refine HA.mono ?_
                  rintro e w5 ⟨v5, rfl, g5, o5, c5, rfl, r5, hc5, b5, hg5, -⟩
                  have bw5 := Lib.hid (Below.next bw.out b5)
                  have hp5 : Hid (Hp w5 g ⟨some ⟨g5, o5, none⟩, c5, aft F k rx⟩) := Lib.hid (Hp.later r5 hc5 rfl (by omega))
                  clear r5 hc5 b5 hg5 HA
                  go_wp2_with fail
                  go_roundg (F.length - (k + 1))
                  case measure => omega
                  case rel => exact ⟨k + 1, _, rfl, by omega, rfl, by go_num, bw5, .inr ⟨rfl, g5, o5, c5, aft F k rx, rfl, hnx, hp5⟩⟩
              · obtain rfl : k = F.length := by omega
                have hn0 : Hid (nextP xs F = none) := Lib.hid (nextP_stop (by rw [← hft.out, Nat.sub_self]; rfl))
                go_wp2_with fail
                have hRwz := (HRw3.out.q bz.out)
                refine bodyPost_ret (results_tmp2 rfl _ _ _) rfl ?_
                have hpl : plays xs F0 = L := by rw [← finL.out, plays_none hn0.out, List.append_nil]
                rw [fin.out, hpl]
                refine ⟨_, _, ro, by simp only [hRwz.len]; rfl, ⟨?_, fun r hr => (hRwz.far r hr).1⟩, hRwz.num, Below.next B2.out hRwz.below⟩
                rw [← hRwz.len]
                exact RdV.of_own hRwz.own
            · by_cases hlt : k < F.length
              · have hltI : (k : Int) < (F.length : Int) := by omega
                have bq := Lib.hid (Below.next HB3.out bz.out)
                have hnxt : Hid (nextP xs F = some rx) := Lib.hid (nextP_fst hW0.out hfm.out)
                have hRq := (HRw3.out.q bz.out)
                have hout := Lib.hid hRq.own
                have hBq : w2.heap.size ≤ wz.heap.size := hRq.below.size
                have hcl : Value.bool true = .bool true := rfl
                clear hRq hcl
                go_wp2_with (at_builtin; refine app1 _ 23 22 (.slice none 0 0) 24 Try.underlying23 hI_row rfl rfl (.tmp 68) (.tmp 70) rfl w2.heap.size _ _ _ rfl hout.out (.slice (some ⟨b, o, none⟩) rx.length rc0) rfl rfl (by omega) (by omega) hBq ?_; intro g' cap' w' h1 h2 h3)
                have fin2 := Lib.hid (hP.out.next bq.out (nr := ⟨some ⟨b, o, none⟩, rc0, rx⟩) hnxt.out hnr.out h1 h2 h3)
                have hps := (nextP_pos Hpos.out hnxt.out)
                have hps1 := hps.2
                have hps0 : 0 ≤ rx.sum := by have := hps.1.len; omega
                clear hps h1 h2 h3
                go_wp2_with fail
                go_roundg (rx.sum.toNat)
                case measure => omega
                case rel => exact ⟨g', cap', ro ++ [⟨some ⟨b, o, none⟩, rc0, rx⟩], ⟨some ⟨b, o, none⟩, rc0, rx⟩, _, rfl, rfl, by simp, rfl, fin2⟩
              · have hltI : decide ((k : Int) < (F.length : Int)) = false := decide_eq_false (by omega)
                have hltN : decide (k < F.length) = false := decide_eq_false hlt
                have bq := Lib.hid (Below.next HB3.out bz.out)
                have hnxt : Hid (nextP xs F = some rx) := Lib.hid (nextP_fst hW0.out hfm.out)
                have hRq := (HRw3.out.q bz.out)
                have hout := Lib.hid hRq.own
                have hBq : w2.heap.size ≤ wz.heap.size := hRq.below.size
                have hcl : Value.bool true = .bool true := rfl
                clear hRq hcl
                go_wp2_with (at_builtin; refine app1 _ 23 22 (.slice none 0 0) 24 Try.underlying23 hI_row rfl rfl (.tmp 68) (.tmp 70) rfl w2.heap.size _ _ _ rfl hout.out (.slice (some ⟨b, o, none⟩) rx.length rc0) rfl rfl (by omega) (by omega) hBq ?_; intro g' cap' w' h1 h2 h3)
                have fin2 := Lib.hid (hP.out.next bq.out (nr := ⟨some ⟨b, o, none⟩, rc0, rx⟩) hnxt.out hnr.out h1 h2 h3)
                have hps := (nextP_pos Hpos.out hnxt.out)
                have hps1 := hps.2
                have hps0 : 0 ≤ rx.sum := by have := hps.1.len; omega
                clear hps h1 h2 h3
                go_wp2_with fail
                go_roundg (rx.sum.toNat)
                case measure => omega
                case rel => exact ⟨g', cap', ro ++ [⟨some ⟨b, o, none⟩, rc0, rx⟩], ⟨some ⟨b, o, none⟩, rc0, rx⟩, _, rfl, rfl, by simp, rfl, fin2⟩
end Go.Proofs.Ytoeacocijcammaa
