/- The program's reached positions: reached. -/
import Derived.Test.YtoeacocijcammaaLmD
import Derived.Test.YtoeacocijcammaaMvP
namespace Go.Proofs.Ytoeacocijcammaa
open Go.RowKit

theorem cT_dup {xs hs : List Int} {i : Nat} (h0 : 0 < i) (h : hs.getD (i - 1) 0 = hs.getD i 0) : candTo xs hs (i + 1) = candTo xs hs i := by
  rw [candTo, candAt, if_pos ⟨h0, h⟩, List.append_nil]
theorem cT_new {xs hs : List Int} {i : Nat} (h : ¬ (0 < i ∧ hs.getD (i - 1) 0 = hs.getD i 0)) : candTo xs hs (i + 1) = candTo xs hs i ++ (moves xs (hs.getD i 0).toNat).map (aft hs i) := by
  rw [candTo, candAt, if_neg h]
/-- A slice of rows of the call's own, of which the numbers are known; and of which block g. -/
structure Rc (w wx : World) (g c : Nat) (rs : List Row) (L : List (List Int)) : Prop where
  own : OwnL wx w.heap.size (some ⟨g, 0, none⟩) c rs
  num : nums rs = L
  below : Below w.heap.size w wx
theorem Rc.len {w wx : World} {g c : Nat} {rs : List Row} {L : List (List Int)} (h : Rc w wx g c rs L) : rs.length = L.length := by rw [← h.num]; simp
theorem Rc.q {w wx wy : World} {g c : Nat} {rs : List Row} {L : List (List Int)} (h : Rc w wx g c rs L) (hb : Below wx.heap.size wx wy) : Rc w wy g c rs L := ⟨h.own.below hb, h.num, Below.next h.below hb⟩
theorem Rc.add {w wx w1 w' : World} {g c g' cap : Nat} {rs : List Row} {L : List (List Int)} {r : Row} (h : Rc w wx g c rs L) (b1 : Below wx.heap.size wx w1) (hr : r.own w1 wx.heap.size)
    (h1 : w'.ownsRow w.heap.size 22 1 (.slice (some ⟨g', 0, none⟩) (rs.length + 1) cap) (rs.length + 1) (rs.map Row.val ++ [r.val])) (h2 : w1.grownBy w' (some g)) (h3 : some g = some g' ∨ w1.heap.size ≤ g') : Rc w w' g' cap (rs ++ [r]) (L ++ [r.xs]) :=
  ⟨h.own.addNew h.below.size b1 hr h1 h2 h3, by unfold nums; rw [List.map_append]; exact congrArg (· ++ [r.xs]) h.num, (Below.next h.below b1).grown h2 (Nat.le_trans h.below.size b1.size) (fun j hj => by
    have := Option.some.inj hj
    have := (h.own.outer.lt g rfl).1
    omega)⟩
theorem moved {g g' n : Nat} (h3 : some g = some g' ∨ n ≤ g') : g' = g ∨ n ≤ g' := by
  rcases h3 with h | h
  · exact .inl (Option.some.inj h).symm
  · exact .inr h
theorem Far.after {w w1 w' : World} {g g' : Nat} {rs : List Row} (h : Far w g rs) (hb : Below w.heap.size w w1) (hg : w1.grownBy w' (some g)) (h3 : some g = some g' ∨ w1.heap.size ≤ g') : Far w' g' rs := by
  have h1 := (h.below hb).move (moved h3)
  have h2 := (h.below hb).grown hg
  exact fun r hr => ⟨(h2 r hr).1, (h1 r hr).2⟩
theorem FarV.after {w w1 w' : World} {g g' n : Nat} {A : Option Addr} {us : List Value} (h : FarV w g A n us) (hb : Below w.heap.size w w1) (hg : w1.grownBy w' (some g)) (h3 : some g = some g' ∨ w1.heap.size ≤ g') : FarV w' g' A n us :=
  ⟨((h.below hb).grown hg).1, ((h.below hb).move (moved h3)).2⟩

set_option maxRecDepth 100000 in
set_option maxHeartbeats 3200000 in
theorem c_reached (A : Option Addr) (c : Nat) (xs : List Int) (B : Option Addr) (n d : Nat) (hs : List Int) (w : World) (rd : RdI w A xs.length xs) (hg : goodC xs = true) (rh : RdI w B n hs) (hpos : ∀ x ∈ hs, x ≤ 300) (hsum : (fil hs).sum ≤ 6000) (hn : n ≤ 6100) :
    Calls Try.prog 72 #[.slice A xs.length c, .slice B n d] w fun e w' => ∃ g c' rs, e = .returned (.slice (some ⟨g, 0, none⟩) rs.length c') ∧ Rc w w' g c' rs (rch xs (fil hs)) := by
  have hl : Hid (hs.length = n) := Lib.hid rh.len
  have hx6 : xs.length ≤ 6 := (goodC_iff.1 hg).2.1
  have hFl : (fil hs).length ≤ n := by have := List.length_filter_le (fun x => decide (0 < x)) hs; unfold fil; rw [hl.out] at this; exact this
  have HF : Hid (∀ x ∈ fil hs, 1 ≤ x ∧ x ≤ 300) := Lib.hid (fun x hx => by have := fil_mem.1 hx; have := hpos x this.1; omega)
  have hML : Hid (∀ k, k ≤ (fil hs).length → (candTo xs (fil hs) k).length ≤ 108000) := Lib.hid (fun k hk => by
    have h1 := candTo_len (xs := xs) (hs := fil hs) hx6 (fun x hx => by have := HF.out x hx; omega) k hk
    have h2 := sum_take_le (hs := fil hs) (fun x hx => by have := HF.out x hx; omega) k
    omega)
  have RD := Lib.hid rd
  have Hg := Lib.hid hg
  have HC := fun W (hb : Below w.heap.size w W) => c_filled B n d hs W (rh.below hb) (by omega)
  obtain ⟨F, hF⟩ : ∃ F, Hid (fil hs = F) := ⟨_, Lib.hid rfl⟩
  rw [hF.out] at hFl HF hML HC ⊢
  clear hpos hsum rd rh hg
  go_enter Try.func72, Try.ntmps72
  go_wp2_with fail
  refine (HC _ ((Below.refl _ _).alloc (Nat.le_refl _) _)).mono ?_
  rintro e wf ⟨gf, cf, rfl, oF, bF⟩
  have hstart : Hid (Rc w wf w.heap.size 0 [] []) := Lib.hid ⟨(OwnL.lit0 w _ (Nat.le_refl _)).below bF, rfl, ((Below.refl _ _).alloc (Nat.le_refl _) _).trans (bF.mono (by simp))⟩
  have hfar : Hid (Far wf w.heap.size [⟨some ⟨gf, 0, none⟩, cf, F⟩]) := Lib.hid (fun r hr => by
    obtain rfl := List.mem_singleton.1 hr
    refine ⟨oF.rd, fun _ e => ?_⟩
    have e1 : gf = w.heap.size := Option.some.inj e
    have := (oF.lt gf rfl).1
    simp at this; omega)
  have hcap : F.length ≤ cf := own_cap oF
  clear oF bF HC
  go_wp2_with fail
  go_loopg [5, 15] F.length (fun m v i wx => ∃ (k g c' : Nat) (rs : List Row) (wy : World), wy = wx ∧ k ≤ F.length ∧ m = F.length - k ∧ i = .int .i64 k ∧ v = .slice (some ⟨g, 0, none⟩) rs.length c' ∧
    Hid (Rc w wy g c' rs (candTo xs F k)) ∧ Hid (Far wy g [⟨some ⟨gf, 0, none⟩, cf, F⟩]))
  case atStart => exact ⟨0, w.heap.size, 0, [], _, rfl, Nat.zero_le _, rfl, rfl, rfl, hstart, hfar⟩
  case round =>
    obtain ⟨i, g, c', rs, wy, rfl, hi, rfl, rfl, rfl, hR, hfr⟩ := hrel
    have hlen : rs.length ≤ 108000 := by rw [hR.out.len]; exact hML.out i hi
    clear hstart hfar
    by_cases hlt : i < F.length
    · have rF : RdI wy (some ⟨gf, 0, none⟩) F.length F := (hfr.out _ (List.mem_singleton.2 rfl)).1
      obtain ⟨_, _, e, _, hcx⟩ := rF.at_ hlt
      cases e
      rw [Nat.zero_add] at hcx
      have hy2 := HF.out _ (mem_getD hlt)
      have hlt2 : (i : Int) < (F.length : Int) := by omega
      by_cases hdup : 0 < i ∧ F.getD (i - 1) 0 = F.getD i 0
      · obtain ⟨h0, he⟩ := hdup
        obtain ⟨_, _, e, _, hcx2⟩ := rF.at_ (k := i - 1) (by omega)
        cases e
        rw [Nat.zero_add, he] at hcx2
        have hnx := Lib.hid (cT_dup (xs := xs) h0 he)
        generalize F.getD i 0 = y at *
        have h0' : (0 : Int) < (i : Int) := by omega
        have k1 : (0 : Int) ≤ (i : Int) - 1 := by omega
        have k2 : (i : Int) - 1 < (F.length : Int) := by omega
        have k3 : ((i : Int) - 1).toNat = i - 1 := by omega
        clear he rF
        go_wp2_with fail
        go_roundg (F.length - (i + 1))
        case measure => omega
        case rel => exact ⟨i + 1, g, c', rs, _, rfl, by omega, rfl, by go_num, rfl, by rw [hnx.out]; exact hR, hfr⟩
      · have hnx := Lib.hid (cT_new (xs := xs) hdup)
        obtain ⟨t, ht⟩ : ∃ t : Nat, F.getD i 0 = (t : Int) := Int.eq_ofNat_of_zero_le (by omega)
        have ht3 : t ≤ 300 := by omega
        rw [ht] at hcx hnx
        have HM := c_heapMoves A c xs t wy (RD.out.below hR.out.below) Hg.out ht3
        have hcx2 : 0 < i → wy.cell? ⟨gf, i - 1, none⟩ = some (.int .i64 (F.getD (i - 1) 0)) ∧ F.getD (i - 1) 0 ≠ (t : Int) := fun h0 => by
          obtain ⟨_, _, e, _, hcx2⟩ := rF.at_ (k := i - 1) (by omega)
          cases e
          rw [Nat.zero_add] at hcx2
          exact ⟨hcx2, fun h => hdup ⟨h0, by rw [ht]; exact h⟩⟩
        have Hcx := Lib.hid hcx
        clear hdup hy2 ht rF
        go_upto_region 6 with fail
        go_cut [6, 7, 30] (fun a b v wx => a = .int .i64 i ∧ b = .int .i64 t ∧ v = .bool false ∧ wy = wx)
        case first =>
          by_cases h0 : 0 < i
          · obtain ⟨d1, d2⟩ := hcx2 h0
            generalize F.getD (i - 1) 0 = y2 at *
            have h0' : (0 : Int) < (i : Int) := by omega
            have k1 : (0 : Int) ≤ (i : Int) - 1 := by omega
            have k2 : (i : Int) - 1 < (F.length : Int) := by omega
            have k3 : ((i : Int) - 1).toNat = i - 1 := by omega
            have k5 : (y2 == (t : Int)) = false := by simpa using d2
            clear hcx2
            go_wp2_with fail
            go_meet
            case rel => exact ⟨rfl, rfl, rfl, rfl⟩
          · have h0' : decide ((0 : Int) < (i : Int)) = false := decide_eq_false (by omega)
            have h0'' : decide (0 < i) = false := decide_eq_false h0
            clear hcx2
            go_wp2_with fail
            go_meet
            case rel => exact ⟨rfl, rfl, rfl, rfl⟩
        case rest =>
          obtain ⟨rfl, rfl, rfl, rfl⟩ := hcut
          clear hcx2 hcx
          go_wp2_with fail
          refine HM.mono ?_
          rintro e w1 ⟨v2, rfl, gm, cm, rsm, rfl, oM, eM, bM, aM⟩
          have EM := Lib.hid eM
          have AM := Lib.hid aM
          have hlr : rsm.length ≤ 18 * t := by have := moves_len18 (xs := xs) t hx6; rw [← eM] at this; simpa using this
          have hgw : g < wy.heap.size := (hR.out.own.outer.lt g rfl).2
          have hf2 := oM.far hgw
          have HF2 := Lib.hid hf2.1
          have HF3 := Lib.hid hf2.2
          have HR1 := Lib.hid (hR.out.q bM)
          have HF1 := Lib.hid (hfr.out.below bM)
          obtain ⟨L0, hL0⟩ : ∃ L0, Hid (candTo xs F i = L0) := ⟨_, Lib.hid rfl⟩
          have hLl : L0.length ≤ 108000 := by rw [← hL0.out, ← hR.out.len]; exact hlen
          rw [hL0.out] at HR1 hnx
          clear oM eM bM aM hf2 hR hfr HM hgw hlen
          go_wp2_with fail
          go_loopg [5, 35] rsm.length (fun m v kk wx => ∃ (k g c' : Nat) (rs : List Row) (wv : World), wv = wx ∧ k ≤ rsm.length ∧ m = rsm.length - k ∧ kk = .int .i64 k ∧ v = .slice (some ⟨g, 0, none⟩) rs.length c' ∧
            Hid (Rc w wv g c' rs (L0 ++ ((moves xs t).take k).map (aft F i))) ∧ Hid (Far wv g [⟨some ⟨gf, 0, none⟩, cf, F⟩]) ∧ Hid (Far wv g rsm) ∧ Hid (FarV wv g (some ⟨gm, 0, none⟩) rsm.length (rsm.map Row.val)))
          case atStart => exact ⟨0, g, c', rs, _, rfl, Nat.zero_le _, rfl, rfl, rfl, by simpa using HR1, HF1, HF2, HF3⟩
          case round =>
            obtain ⟨k, g, c', rs, wv, rfl, hk, rfl, rfl, rfl, hR, hfr, hfm, hfv⟩ := hrel
            by_cases hkl : k < rsm.length
            · have hrm : rsm[k] ∈ rsm := List.getElem_mem hkl
              have hmk : Hid ((moves xs t).take (k + 1) = (moves xs t).take k ++ [rsm[k].xs]) := Lib.hid (by
                have hkm : k < (moves xs t).length := by rw [← EM.out]; simpa using hkl
                rw [List.take_succ_eq_append_getElem hkm]
                have e1 : (moves xs t)[k] = rsm[k].xs := by
                  have := EM.out
                  simp only [← this, List.getElem_map]
                rw [e1])
              have hrv : (rsm.map Row.val)[k]? = some rsm[k].val := by simp [hkl]
              obtain ⟨_, _, e, _, hcv⟩ := RdV.at_ hfv.out.1 hkl
              cases e
              have hcv := hcv k _ hrv
              rw [Nat.zero_add] at hcv
              have hrr := (hfm.out _ hrm).1
              have hAne := AM.out _ hrm
              have hmt : rsm[k].xs ∈ mvs xs t := moves_mem.1 (by rw [← EM.out]; exact List.mem_map_of_mem hrm)
              have hmf := mvs_facts hmt
              generalize rsm[k] = r at *
              obtain ⟨rA, rc, rx⟩ := r
              simp only [Row.rd, Row.val] at hrr hcv hAne hmf hmk
              obtain ⟨ad, rfl⟩ : ∃ ad, rA = some ad := by
                cases rA with
                | none => exact absurd rfl hAne
                | some ad => exact ⟨ad, rfl⟩
              have rF : RdI wv (some ⟨gf, 0, none⟩) F.length F := (hfr.out _ (List.mem_singleton.2 rfl)).1
              have HP := c_replaced gf 0 F.length cf F i ad rx.length rc rx wv rF hcap hlt hrr (by omega) (by omega)
              have hkl2 : (k : Int) < (rsm.length : Int) := by omega
              have hrsl : rs.length ≤ 200000 := by
                rw [hR.out.len, List.length_append, List.length_map, List.length_take]; omega
              have hBv : w.heap.size ≤ wv.heap.size := hR.out.below.size
              clear hrm hrv hmt hmf hrr hAne rF
              go_wp2_with fail
              refine HP.mono ?_
              rintro e w3 ⟨A3, c3, rfl, o3, b3⟩
              have O3 := Lib.hid o3
              have B3 := Lib.hid b3
              have hB3 : w.heap.size ≤ w3.heap.size := Nat.le_trans hBv b3.size
              have hout := Lib.hid (hR.out.own.below b3).outer
              have hpl : (aft F i rx).length = (aft F i rx).length := rfl
              clear o3 b3 HP hpl
              go_wp2_with (at_builtin; refine app1 _ 23 22 (.slice none 0 0) 24 Try.underlying23 hI_row rfl rfl (.tmp 39) (.tmp 44) rfl w.heap.size _ _ _ rfl hout.out (.slice A3 (aft F i rx).length c3) rfl rfl (by omega) (by omega) hB3 ?_; intro g' cap' w' h1 h2 h3)
              have fR := Lib.hid (hR.out.add (r := ⟨A3, c3, aft F i rx⟩) B3.out O3.out h1 h2 h3)
              have f1 := Lib.hid (hfr.out.after B3.out h2 h3)
              have f2 := Lib.hid (hfm.out.after B3.out h2 h3)
              have f3 := Lib.hid (hfv.out.after B3.out h2 h3)
              have fl : Hid ((rs ++ [(⟨A3, c3, aft F i rx⟩ : Row)]).length = rs.length + 1) := Lib.hid (by simp)
              clear h1 h2 h3
              go_roundg (rsm.length - (k + 1))
              case measure => omega
              case rel =>
                refine ⟨k + 1, g', cap', rs ++ [⟨A3, c3, aft F i rx⟩], _, rfl, by omega, rfl, by go_num, by rw [fl.out], ?_, f1, f2, f3⟩
                rw [hmk.out, List.map_append, ← List.append_assoc]; exact fR
            · obtain rfl : k = rsm.length := by omega
              have fin : Hid ((moves xs t).take rsm.length = moves xs t) := Lib.hid (List.take_of_length_le (by rw [← EM.out]; simp))
              go_wp2_with fail
              go_roundg (F.length - (i + 1))
              case measure => omega
              case rel => exact ⟨i + 1, g, c', rs, _, rfl, by omega, rfl, by go_num, rfl, by rw [hnx.out]; rw [fin.out] at hR; exact hR, hfr⟩
    · obtain rfl : i = F.length := by omega
      have hfin : Hid (Rc w wy g c' rs (cand xs F)) := hR
      have HS := c_sortedHeaps w.heap.size g c' rs wy hR.out.own (by omega) (fun s hs2 => by
        have : s.xs ∈ cand xs F := by rw [← hfin.out.num]; exact List.mem_map_of_mem hs2
        have := cand_len this; omega)
      go_wp2_with fail
      refine HS.mono ?_
      rintro e w2 ⟨rs2, rfl, o2, e2, g2, _⟩
      have fin : Hid (Rc w w2 g c' rs2 (rch xs F)) := Lib.hid ⟨o2, by rw [e2, hfin.out.num]; rfl, hfin.out.below.grown g2 hfin.out.below.size (fun j hj => by
        have := Option.some.inj hj
        have := (hfin.out.own.outer.lt g rfl).1
        omega)⟩
      clear o2 e2 g2
      go_wp2_with fail
      go_ret
      exact ⟨g, c', rs2, rfl, fin.out⟩
end Go.Proofs.Ytoeacocijcammaa
