/- The walk of the law FnDyadicText. -/
import Derived.Test.YtaifelcocnnkjaaDoorDtB
import Derived.Test.YtaifelcocnnkjaaDoorNtO
namespace Go.Proofs.YtaifelcocnnkjaaDoor
open Go.RowKit

theorem c_vBigD (A : Option Addr) (n c : Nat) (w : World) (hm : n ≤ maxLen) :
    Calls Tryd.prog 15 #[.slice A n c] w fun e w' => e = .returned (.bool (decide (65536 < (n : Int)))) ∧ w = w' := by
  unfold maxLen at hm
  go_enter Tryd.func15, Tryd.ntmps15
  go_wp2
  go_ret
  exact ⟨rfl, rfl⟩
theorem low_good (t : Int) (p : Nat) : gd (lowV t p).1 (lowV t p).2.1 = true ∧ ((lowV t p).2.2 = true ∨ ((lowV t p).1 = 0 ∧ (lowV t p).2.1 = 0)) := by
  unfold lowV
  cases h : gd (red t p).1 (red t p).2
  · exact ⟨by rfl, .inr ⟨rfl, rfl⟩⟩
  · exact ⟨h, .inl rfl⟩
theorem make_good {t p x y : Int} {md : Bool} (h : makeV t p = (x, y, md)) : gd x y = true ∧ (md = true ∨ (x = 0 ∧ y = 0)) := by
  have h1 := low_good t p.toNat
  unfold makeV at h
  split at h
  · rw [h] at h1; exact h1
  · injection h with a b
    injection b with b c
    subst a; subst b; subst c
    exact ⟨by rfl, .inr ⟨rfl, rfl⟩⟩
abbrev Dc (t p : Int) : Obj := .cells #[.int .i64 t, .int .i64 p] 41
theorem dn0 (w : World) (t p : Int) : (w.alloc (Dc t p)).cell? ⟨w.heap.size, 0, none⟩ = some (.int .i64 t) := by simp [go_sem, Dc]
theorem dn1 (w : World) (t p : Int) : (w.alloc (Dc t p)).cell? ⟨w.heap.size, 1, none⟩ = some (.int .i64 p) := by simp [go_sem, Dc]
theorem dnb (w : World) (t p : Int) : Below w.heap.size w (w.alloc (Dc t p)) := (Below.refl _ _).alloc (Nat.le_refl _) _
set_option maxRecDepth 20000 in
set_option maxHeartbeats 8000000 in
theorem w_FnDyadicText (A : Option Addr) (n c : Nat) (bs : List Int) (w : World) (rd : RdV w A n (bs.map (Value.int .u8))) (f : Fits .u8 bs) (m : n ≤ maxLen) (ht : Tab w) (hr : RngV w) (hv : SynV w) :
    Calls Tryd.prog 5 #[.slice A n c] w fun e w' => e = .returned (.bool true) ∧ Below w.heap.size w w' := by
  by_cases hn : n ≤ 65536
  · have HC := Lib.hid (show Code8 w A n bs from ⟨rd, f, by omega⟩)
    have h65 : ¬ (65536 : Int) < (n : Int) := by omega
    have HT := Lib.hid ht
    have HV := Lib.hid hv
    have HR := Lib.hid hr
    clear rd f ht hv hr hn
    go_enter Tryd.func5, Tryd.ntmps5
    go_wp2_with fail
    refine (c_vBigD _ _ _ _ m).mono ?_
    rintro e w' ⟨rfl, rfl⟩
    go_wp2_with fail
    refine (c_DrawDyadicText A n c bs _ HC.out).mono ?_
    rintro e w1 ⟨t, p, rfl, b1⟩
    obtain ⟨s, hs⟩ : ∃ s, (dyT t p).1 = s := ⟨_, rfl⟩
    obtain ⟨ok, hok⟩ : ∃ ok, (dyT t p).2 = ok := ⟨_, rfl⟩
    have KT := Lib.hid (fun w h => c_DyadicText t p w h)
    have KS := Lib.hid (fun w => s_DyadicText t p w)
    have e1 : dyT t p = (s, ok) := by rw [← hs, ← hok]
    rw [e1] at KT KS
    have hback := Lib.hid (fun (t' p' : Int) (o : Bool) (h : ReadOk (dyT t p).1 t' p' o) => back_dyT h)
    rw [e1] at hback
    have hsz : s.size ≤ 1048576 := by
      rw [← hs]; unfold dyT
      cases hg : gd t p
      · exact Nat.zero_le _
      · have hrg := gd_rng hg
        have := (dyB_sz (t := t) (p := p) (by omega) (by omega) (by omega)).2
        show (dyB t p).size ≤ _
        omega
    clear hs hok e1
    have B1 := Lib.hid (Below.next b1 (dnb w1 t p))
    clear b1
    have c30 := dn0 w1 t p
    have c31 := dn1 w1 t p
    go_wp2_with fail
    refine (KT.out _ (HT.out.below B1.out)).mono ?_
    rintro e w2 ⟨rfl, b⟩
    have c30 := bkeep b _ _ c30
    have c31 := bkeep b _ _ c31
    have B2 := Lib.hid (Below.next B1.out b)
    clear b B1
    go_wp2_with fail
    refine (KS.out _).mono ?_
    rintro e w3 ⟨rfl, b⟩
    have c30 := bkeep b _ _ c30
    have c31 := bkeep b _ _ c31
    have B3 := Lib.hid (Below.next B2.out b)
    clear b B2
    go_wp2_with fail
    refine (c_DrawReadDyadic A n c bs _ (HC.out.below B3.out)).mono ?_
    rintro e w4 ⟨T, rfl, hT, b⟩
    have c30 := bkeep b _ _ c30
    have c31 := bkeep b _ _ c31
    have B4 := Lib.hid (Below.next B3.out b)
    clear b B3
    go_wp2_with fail
    refine (c_ReadDyadic T _ (HT.out.below B4.out) (HV.out.below B4.out) (HR.out.below B4.out)).mono ?_
    rintro e w5 ⟨u, q, o, rfl, r1, b⟩
    have R1 := Lib.hid r1
    have c30 := alloc_keep (Dc u q) (bkeep b _ _ c30)
    have c31 := alloc_keep (Dc u q) (bkeep b _ _ c31)
    have c90 := dn0 w5 u q
    have c91 := dn1 w5 u q
    have B5 := Lib.hid (Below.next (Below.next B4.out b) (dnb w5 u q))
    clear b B4 r1
    go_wp2_with fail
    refine (s_ReadDyadic T _ (by omega)).mono ?_
    rintro e w6 ⟨u', q', o', rfl, r2, b⟩
    obtain ⟨rfl, rfl, rfl⟩ := R1.out.same r2
    have c30 := alloc_keep (Dc u q) (bkeep b _ _ c30)
    have c31 := alloc_keep (Dc u q) (bkeep b _ _ c31)
    have c90 := alloc_keep (Dc u q) (bkeep b _ _ c90)
    have c91 := alloc_keep (Dc u q) (bkeep b _ _ c91)
    have d0 := dn0 w6 u q
    have d1 := dn1 w6 u q
    have B6 := Lib.hid (Below.next (Below.next B5.out b) (dnb w6 u q))
    clear b B5 r2 R1
    go_wp2_with fail
    refine (c_DrawMakeDyadic A n c bs _ (HC.out.below B6.out)).mono ?_
    rintro e w7 ⟨a, k, rfl, a0, a1, k0, k1, b⟩
    obtain ⟨x, y, md, hM⟩ : ∃ x y md, makeV a k = (x, y, md) := ⟨_, _, _, rfl⟩
    have MG := Lib.hid (make_good hM)
    have KM := Lib.hid (fun w => c_MakeDyadic a k w)
    have KN := Lib.hid (fun w => s_MakeDyadic a k w)
    rw [hM] at KM KN
    have c30 := bkeep b _ _ c30
    have c31 := bkeep b _ _ c31
    have c90 := bkeep b _ _ c90
    have c91 := bkeep b _ _ c91
    have d0 := bkeep b _ _ d0
    have d1 := bkeep b _ _ d1
    have B7 := Lib.hid (Below.next B6.out b)
    clear b B6 hM
    go_wp2_with fail
    refine (KM.out _).mono ?_
    rintro e w8 ⟨rfl, b⟩
    have c30 := alloc_keep (Dc x y) (bkeep b _ _ c30)
    have c31 := alloc_keep (Dc x y) (bkeep b _ _ c31)
    have c90 := alloc_keep (Dc x y) (bkeep b _ _ c90)
    have c91 := alloc_keep (Dc x y) (bkeep b _ _ c91)
    have d0 := alloc_keep (Dc x y) (bkeep b _ _ d0)
    have d1 := alloc_keep (Dc x y) (bkeep b _ _ d1)
    have f0 := dn0 w8 x y
    have f1 := dn1 w8 x y
    have B8 := Lib.hid (Below.next (Below.next B7.out b) (dnb w8 x y))
    clear b B7
    go_wp2_with fail
    refine (KN.out _).mono ?_
    rintro e w9 ⟨rfl, b⟩
    have c30 := alloc_keep (Dc x y) (bkeep b _ _ c30)
    have c31 := alloc_keep (Dc x y) (bkeep b _ _ c31)
    have c90 := alloc_keep (Dc x y) (bkeep b _ _ c90)
    have c91 := alloc_keep (Dc x y) (bkeep b _ _ c91)
    have d0 := alloc_keep (Dc x y) (bkeep b _ _ d0)
    have d1 := alloc_keep (Dc x y) (bkeep b _ _ d1)
    have f0 := alloc_keep (Dc x y) (bkeep b _ _ f0)
    have f1 := alloc_keep (Dc x y) (bkeep b _ _ f1)
    have g0 := dn0 w9 x y
    have g1 := dn1 w9 x y
    have B9 := Lib.hid (Below.next (Below.next B8.out b) (dnb w9 x y))
    clear b B8 KM KN
    go_wp2_with fail
    refine (c_ReadDyadic s _ (HT.out.below B9.out) (HV.out.below B9.out) (HR.out.below B9.out)).mono ?_
    rintro e w10 ⟨v, z, o3, rfl, r3, b⟩
    obtain ⟨rfl, hvz, hgd⟩ := hback.out v z o3 r3
    have c30 := alloc_keep (Dc v z) (bkeep b _ _ c30)
    have c31 := alloc_keep (Dc v z) (bkeep b _ _ c31)
    have f0 := alloc_keep (Dc v z) (bkeep b _ _ f0)
    have f1 := alloc_keep (Dc v z) (bkeep b _ _ f1)
    have h0 := dn0 w10 v z
    have h1 := dn1 w10 v z
    have B10 := Lib.hid (Below.next (Below.next B9.out b) (dnb w10 v z))
    clear b B9 r3 c90 c91 d0 d1 g0 g1 KT KS hback
    have KG := Lib.hid (fun w => c_GoodDyadic t p w)
    have KH := Lib.hid (fun w => c_GoodDyadic x y w)
    rw [← hgd] at KG
    rw [MG.out.1] at KH
    have MD := MG.out.2
    clear hgd MG
    cases o3
    · clear hvz
      go_wp2_with fail
      refine (KG.out _).mono ?_
      rintro e w11 ⟨rfl, b⟩
      have c30 := bkeep b _ _ c30
      have c31 := bkeep b _ _ c31
      have f0 := bkeep b _ _ f0
      have f1 := bkeep b _ _ f1
      have h0 := bkeep b _ _ h0
      have h1 := bkeep b _ _ h1
      have B11 := Lib.hid (Below.next B10.out b)
      clear b B10
      go_wp2_with fail
      refine (KH.out _).mono ?_
      rintro e w12 ⟨rfl, b⟩
      have f0 := bkeep b _ _ f0
      have f1 := bkeep b _ _ f1
      have B12 := Lib.hid (Below.next B11.out b)
      clear b B11
      rcases MD with rfl | ⟨rfl, rfl⟩
      · go_wp2_with fail
        go_ret
        exact ⟨rfl, B12.out⟩
      · cases md
        all_goals
          go_wp2_with fail
          go_ret
          exact ⟨rfl, B12.out⟩
    · have e1 := (hvz rfl).1.symm
      have e2 := (hvz rfl).2.symm
      clear hvz
      subst e1
      subst e2
      go_wp2_with fail
      refine (KG.out _).mono ?_
      rintro e w11 ⟨rfl, b⟩
      have c30 := bkeep b _ _ c30
      have c31 := bkeep b _ _ c31
      have f0 := bkeep b _ _ f0
      have f1 := bkeep b _ _ f1
      have h0 := bkeep b _ _ h0
      have h1 := bkeep b _ _ h1
      have B11 := Lib.hid (Below.next B10.out b)
      clear b B10
      go_wp2_with fail
      refine (KH.out _).mono ?_
      rintro e w12 ⟨rfl, b⟩
      have f0 := bkeep b _ _ f0
      have f1 := bkeep b _ _ f1
      have B12 := Lib.hid (Below.next B11.out b)
      clear b B11
      rcases MD with rfl | ⟨rfl, rfl⟩
      · go_wp2_with fail
        go_ret
        exact ⟨rfl, B12.out⟩
      · cases md
        all_goals
          go_wp2_with fail
          go_ret
          exact ⟨rfl, B12.out⟩
  · have h65 : (65536 : Int) < (n : Int) := by omega
    go_enter Tryd.func5, Tryd.ntmps5
    go_wp2_with fail
    refine (c_vBigD _ _ _ _ m).mono ?_
    rintro e w' ⟨rfl, rfl⟩
    go_wp2_with fail
    go_ret
    exact ⟨rfl, Below.refl _ _⟩
end Go.Proofs.YtaifelcocnnkjaaDoor
