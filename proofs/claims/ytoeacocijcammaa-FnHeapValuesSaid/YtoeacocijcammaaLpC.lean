/- Draws of heaps. -/
import Derived.Test.YtoeacocijcammaaLpA
import Derived.Test.YtoeacocijcammaaLlN
namespace Go.Proofs.Ytoeacocijcammaa
open Go.RowKit

theorem Ds.renew {w wx w' : World} {g n c cap cap' : Nat} {A B B' : Option Addr} {bs L L' : List Int} {M : Int} (h : Ds w wx g A n c bs M B cap L) (hb : Below wx.heap.size wx w') (ho : OwnI w' wx.heap.size B' cap' L') : Ds w w' g A n c bs M B' cap' L' :=
  ⟨own_low ho h.grown.size, h.cur.below hb, grown_mid h.grown (grown_of_below none hb) (fun k e => by cases e)⟩
theorem Ds.lit1 {w wx : World} {g n c cap : Nat} {A B : Option Addr} {bs L : List Int} {M : Int} (h : Ds w wx g A n c bs M B cap L) (x : Int) : Ds w (wx.alloc (.cells #[.int .i64 x] 3)) g A n c bs M (some ⟨wx.heap.size, 0, none⟩) 1 [x] :=
  ⟨own_block (heap_alloc_new wx _) h.grown.size rfl (by simp), h.cur.below ((Below.refl _ _).alloc (Nat.le_refl _) _), grown_mid h.grown (World.grownBy_alloc wx _ none) (fun k e => by cases e)⟩
/-- What a draw of a list hands back that is not nil. -/
def DrawS (w : World) (g : Nat) (A : Option Addr) (n c : Nat) (bs : List Int) (M : Int) (K : Nat) (e : Ending) (w' : World) : Prop :=
  ∃ gb cap L, e = .returned (.slice (some ⟨gb, 0, none⟩) L.length cap) ∧ L.length ≤ K ∧ Ds w w' g A n c bs M (some ⟨gb, 0, none⟩) cap L
theorem own_cells0 {w : World} {base b c : Nat} {xs : List Int} (h : OwnI w base (some ⟨b, 0, none⟩) c xs) : ∀ j u, (xs.map (Value.int .i64))[j]? = some u → w.cell? ⟨b, 0 + j, none⟩ = some u := fun j u hj => by
  have hjl : j < xs.length := by
    rcases Nat.lt_or_ge j xs.length with h1 | h1
    · exact h1
    · rw [List.getElem?_eq_none (by simpa using h1)] at hj; cases hj
  obtain ⟨_, _, e, _, hq⟩ := RdV.at_ (OwnI.rd h) hjl
  cases e
  exact hq j u hj
set_option maxRecDepth 100000 in
set_option maxHeartbeats 6400000 in
theorem c_l17DrawHeaps (g : Nat) (A : Option Addr) (n c : Nat) (bs : List Int) (m : Int) (w : World) (hc : Cur w g A n c bs m) (hm : m ≤ 800000000000) (hn : n ≤ 1099511627776) :
    Calls Try.prog 73 #[.pointer (some ⟨g, 0, none⟩)] w (DrawS w g A n c bs (m + 200) 22) := by
  have HOld := Lib.hid hc.old
  have gne : g < w.heap.size := hc.lt
  have hD : Hid (Ds w (w.alloc (.cells #[] 3)) g A n c bs m (some ⟨w.heap.size, 0, none⟩) 0 []) := Lib.hid
    ⟨own_lit0 w 3 _ (Nat.le_refl _), hc.below ((Below.refl _ _).alloc (Nat.le_refl _) _), World.grownBy_alloc w _ _⟩
  have HP := Lib.hid (c_pick 5 g A n c bs m _ hD.out.cur (by omega) hn (by decide) (by decide))
  clear hc
  go_enter Try.func73, Try.ntmps73
  go_wp2_with fail
  refine HP.out.mono ?_
  rintro e w1 ⟨y, rfl, y0, y1, hc1, gr1⟩
  obtain ⟨y, rfl⟩ := Int.eq_ofNat_of_zero_le y0
  have hy4 : y ≤ 4 := by omega
  have hD1 := Lib.hid (hD.out.next gne hc1 gr1)
  clear hD HP hc1 gr1
  go_wp2_with fail
  go_loopg [3, 4] y (fun mm o i wx => ∃ (k : Nat) (B : Option Addr) (cap : Nat) (L : List Int) (wz : World), wz = wx ∧ mm = k ∧ k ≤ 4 ∧ i = .int .i64 k ∧ o = .slice B L.length cap ∧ L.length + k ≤ 4 ∧ Hid (Ds w wz g A n c bs (m + 20 - 2 * (k : Int)) B cap L))
  case atStart => exact ⟨y, _, _, [], _, rfl, rfl, by omega, rfl, rfl, by simp; omega, Lib.hid (hD1.out.more (by omega))⟩
  case round =>
    obtain ⟨kk, B, cap, L, wz, rfl, hmk, hk4, rfl, rfl, hLk, hD⟩ := hrel
    clear hD1
    by_cases h0 : 0 < kk
    · have h0i : (0 : Int) < (kk : Int) := by omega
      have HP := Lib.hid (c_pick 12 g A n c bs _ _ hD.out.cur (by omega) hn (by decide) (by decide))
      go_wp2_with fail
      refine HP.out.mono ?_
      rintro e w5 ⟨z, rfl, z0, z1, hc5, gr5⟩
      have hD6 := Lib.hid (hD.out.next gne hc5 gr5)
      have hw5 : w.heap.size ≤ w5.heap.size := hD6.out.grown.size
      clear HP hc5 gr5
      go_wp2_with (at_builtin; refine app1 _ 22 3 (.int .i64 0) 8 Try.underlying22 hI_int rfl rfl (.tmp 12) (.tmp 16) rfl w.heap.size _ _ _ rfl hD6.out.own (.int .i64 (1 + z)) rfl rfl (by omega) (by omega) hw5 ?_; intro g' cap' w' h1 h2 h3)
      have hD7 := Lib.hid (hD6.out.app gne HOld.out (g' := g') (cap' := cap') (L' := L ++ [1 + z]) (by unfold OwnI; rw [List.length_append, List.map_append]; exact h1) h2)
      clear h1 h2 h3 hD6
      go_roundg (kk - 1)
      case measure => omega
      case rel => exact ⟨kk - 1, _, _, L ++ [1 + z], _, rfl, rfl, by omega, by go_num, by simp, by simp; omega, Lib.hid (hD7.out.more (by omega))⟩
    · obtain rfl : kk = 0 := by omega
      have HS := Lib.hid (s_l17Sorted B L.length cap L wz (OwnI.rd hD.out.own) (by omega))
      go_wp2_with fail
      refine HS.out.mono ?_
      rintro e w2 ⟨v2, rfl, g2, o2, c2, rfl, _, _, b2, _, rfl, own2⟩
      have hlen2 : (srtR [] L).length ≤ 4 := by have := srtR_len L []; simp at this; omega
      generalize srtR [] L = L2 at *
      have hD2 := Lib.hid (hD.out.renew b2 own2)
      clear b2 own2 HS hD
      have HP := Lib.hid (c_one 12 g A n c bs _ _ hD2.out.cur (by omega) hn (by decide) (by decide))
      go_wp2_with fail
      refine HP.out.mono ?_
      rintro e w4 ⟨x, rfl, hc4, gr4⟩
      have hD4 := Lib.hid (hD2.out.next gne hc4 gr4)
      clear hD2 hc4 gr4 HP
      go_upto_if 21 with fail
      go_cut [3] (fun v wx => ∃ gb cap L wz, wz = wx ∧ v = .slice (some ⟨gb, 0, none⟩) L.length cap ∧ L.length ≤ 22 ∧ Hid (Ds w wz g A n c bs (m + 200) (some ⟨gb, 0, none⟩) cap L))
      case first =>
        cases x
        · go_wp2_with fail
          go_meet
          case rel => exact ⟨_, _, L2, _, rfl, rfl, by omega, Lib.hid (hD4.out.more (by omega))⟩
        · have HP := Lib.hid (c_pick 4 g A n c bs _ _ hD4.out.cur (by omega) hn (by decide) (by decide))
          go_wp2_with fail
          refine HP.out.mono ?_
          rintro e w5 ⟨y, rfl, y0, y1, hc5, gr5⟩
          have hD5 := Lib.hid (hD4.out.next gne hc5 gr5)
          have hw5 : w.heap.size ≤ w5.heap.size := hD5.out.grown.size
          clear hD4 HP hc5 gr5
          rcases (show y = 0 ∨ y = 1 ∨ y = 2 ∨ y = 3 by omega) with rfl | rfl | rfl | rfl
          · have bA : Below w5.heap.size w5 (w5.alloc (.cells ([(0 : Int), 300, 301, -1].map (Value.int .i64)).toArray 3)) := (Below.refl _ _).alloc (Nat.le_refl _) _
            have hr1 : RdI (w5.alloc (.cells ([(0 : Int), 300, 301, -1].map (Value.int .i64)).toArray 3)) (some ⟨w5.heap.size, 0, none⟩) 4 [0, 300, 301, -1] := RdI.of_cells (heap_alloc_new _ _)
            have hg5 : g < w5.heap.size := Nat.lt_of_lt_of_le gne hD5.out.grown.size
            have hDA := Lib.hid (hD5.out.alloc (.cells ([(0 : Int), 300, 301, -1].map (Value.int .i64)).toArray 3))
            have HA := Lib.hid (c_among (some ⟨w5.heap.size, 0, none⟩) 4 [0, 300, 301, -1] (by decide) (by decide) g (fun b off e => by injection e with e; injection e with e; omega) A n c bs _ _ hr1 hDA.out.cur (by omega) hn)
            clear hr1 bA hD5
            go_wp2_with fail
            refine HA.out.mono ?_
            rintro e w6 ⟨z, rfl, hz, hc6, gr6⟩
            have hD6 := Lib.hid (hDA.out.next gne hc6 gr6)
            have hw6 : w.heap.size ≤ w6.heap.size := hD6.out.grown.size
            clear HA hc6 gr6 hDA
            go_wp2_with (at_builtin; refine app1 _ 22 3 (.int .i64 0) 8 Try.underlying22 hI_int rfl rfl (.tmp 26) (.tmp 30) rfl w.heap.size _ _ _ rfl hD6.out.own (.int .i64 z) rfl rfl (by omega) (by omega) hw6 ?_; intro g' cap' w' h1 h2 h3)
            have hD7 := Lib.hid (hD6.out.app gne HOld.out (g' := g') (cap' := cap') (L' := L2 ++ [z]) (by unfold OwnI; rw [List.length_append, List.map_append]; exact h1) h2)
            clear h1 h2 h3 hD6
            go_wp2_with fail
            go_meet
            case rel => exact ⟨_, _, L2 ++ [z], _, rfl, by simp, by simp; omega, Lib.hid (hD7.out.more (by omega))⟩
          · have hDL := Lib.hid (hD5.out.lit1 0)
            have hcl := Lib.hid (own_cells0 (hD5.out.alloc (.cells #[.int .i64 0] 3)).own)
            have hwL : w.heap.size ≤ (w5.alloc (.cells #[.int .i64 0] 3)).heap.size := hDL.out.grown.size
            clear hD5
            go_wp2_with (at_builtin; refine app_rd _ 22 3 (.int .i64 0) 8 Try.underlying22 hI_int rfl rfl (.tmp 34) (.tmp 35) rfl w.heap.size _ 1 1 _ rfl hDL.out.own g2 0 L2.length c2 (L2.map (Value.int .i64)) (by simp) hcl.out one_ints rfl (by omega) (by omega) hwL ?_; intro g' cap' w' h1 h2)
            have hD7 := Lib.hid (hDL.out.app gne HOld.out (g' := g') (cap' := cap') (L' := 0 :: L2) (by unfold OwnI; rw [List.length_cons, List.map_cons, Nat.add_comm]; exact h1) h2)
            clear h1 h2 hDL
            go_wp2_with fail
            go_meet
            case rel => exact ⟨_, _, 0 :: L2, _, rfl, by simp [Nat.add_comm], by simp; omega, Lib.hid (hD7.out.more (by omega))⟩
          · have hDL := Lib.hid (hD5.out.lit1 30)
            have hcl := Lib.hid (own_cells0 (hD5.out.alloc (.cells #[.int .i64 30] 3)).own)
            have hwL : w.heap.size ≤ (w5.alloc (.cells #[.int .i64 30] 3)).heap.size := hDL.out.grown.size
            clear hD5
            go_wp2_with (at_builtin; refine app_rd _ 22 3 (.int .i64 0) 8 Try.underlying22 hI_int rfl rfl (.tmp 39) (.tmp 40) rfl w.heap.size _ 1 1 _ rfl hDL.out.own g2 0 L2.length c2 (L2.map (Value.int .i64)) (by simp) hcl.out one_ints rfl (by omega) (by omega) hwL ?_; intro g' cap' w' h1 h2)
            have hD7 := Lib.hid (hDL.out.app gne HOld.out (g' := g') (cap' := cap') (L' := 30 :: L2) (by unfold OwnI; rw [List.length_cons, List.map_cons, Nat.add_comm]; exact h1) h2)
            clear h1 h2 hDL
            go_wp2_with fail
            go_meet
            case rel => exact ⟨_, _, 30 :: L2, _, rfl, by simp [Nat.add_comm], by simp; omega, Lib.hid (hD7.out.more (by omega))⟩
          · go_wp2_with fail
            go_loopg [3] (22 - L2.length) (fun mm o wx => ∃ (gb cap : Nat) (L : List Int) (wz : World), wz = wx ∧ mm = 22 - L.length ∧ o = .slice (some ⟨gb, 0, none⟩) L.length cap ∧ L.length ≤ 21 ∧ Hid (Ds w wz g A n c bs (m + 60 + 2 * (L.length : Int)) (some ⟨gb, 0, none⟩) cap L))
            case atStart => exact ⟨_, _, L2, _, rfl, rfl, rfl, by omega, Lib.hid (hD5.out.more (by omega))⟩
            case round =>
              clear hD5 hlen2
              obtain ⟨gb, cap, L, wz, rfl, hmk, rfl, hL7, hD⟩ := hrel
              have HP := Lib.hid (c_pick 2 g A n c bs _ _ hD.out.cur (by omega) hn (by decide) (by decide))
              go_wp2_with fail
              refine HP.out.mono ?_
              rintro e w6 ⟨z, rfl, z0, z1, hc6, gr6⟩
              have hD6 := Lib.hid (hD.out.next gne hc6 gr6)
              have hw6 : w.heap.size ≤ w6.heap.size := hD6.out.grown.size
              clear HP hc6 gr6 hD
              by_cases hlt : (L.length : Int) < 20 + z
              · go_wp2_with (at_builtin; refine app1 _ 22 3 (.int .i64 0) 8 Try.underlying22 hI_int rfl rfl (.tmp 50) (.tmp 51) rfl w.heap.size _ _ _ rfl hD6.out.own (.int .i64 13) rfl rfl (by omega) (by omega) hw6 ?_; intro g' cap' w' h1 h2 h3)
                have hD8 := Lib.hid (hD6.out.app gne HOld.out (g' := g') (cap' := cap') (L' := L ++ [13]) (by unfold OwnI; rw [List.length_append, List.map_append]; exact h1) h2)
                clear h1 h2 h3 hD6
                go_roundg (22 - (L.length + 1))
                case measure => omega
                case rel => exact ⟨_, _, L ++ [13], _, rfl, by simp, by simp, by simp; omega, Lib.hid (hD8.out.more (by simp; omega))⟩
              · go_wp2_with fail
                go_meet
                case rel => exact ⟨gb, cap, L, _, rfl, rfl, by omega, Lib.hid (hD6.out.more (by omega))⟩
      case rest =>
        clear hD4 hlen2
        obtain ⟨gb, cap, L, wz, rfl, rfl, hL8, hD⟩ := hcut
        go_wp2_with fail
        exact bodyPost_ret (results_tmp rfl _ _ _) rfl ⟨gb, cap, L, rfl, hL8, hD.out⟩
end Go.Proofs.Ytoeacocijcammaa
