/- The walk of the law on sums of dyadic numbers. -/
import Derived.Test.YtbfabnpcahinfaaDySP
namespace Go.Proofs.Ytbfabnpcahinfaa
open Go.RowKit

theorem c_vBig (A : Option Addr) (n c : Nat) (w : World) (hm : n ≤ maxLen) :
    Calls Try.prog 38 #[.slice A n c] w fun e w' => e = .returned (.bool (decide (65536 < (n : Int)))) ∧ w = w' := by
  unfold maxLen at hm
  go_enter Try.func38, Try.ntmps38
  go_wp2
  go_ret
  exact ⟨rfl, rfl⟩
set_option maxHeartbeats 8000000 in
theorem w_FnDyadic (A : Option Addr) (n c : Nat) (bs : List Int) (w : World) (rd : RdV w A n (bs.map (Value.int .u8))) (f : Fits .u8 bs) (m : n ≤ maxLen) :
    Calls Try.prog 13 #[.slice A n c] w fun e w' => e = .returned (.bool true) ∧ Below w.heap.size w w' := by
  by_cases hn : n ≤ 65536
  · have hc : Code8 w A n bs := ⟨rd, f, by omega⟩
    have h65 : ¬ (65536 : Int) < (n : Int) := by omega
    clear rd f
    go_enter Try.func13, Try.ntmps13
    go_wp2_with fail
    refine (c_vBig _ _ _ _ m).mono ?_
    rintro e w' ⟨rfl, rfl⟩
    go_wp2_with fail
    refine (c_DrawAddDyadic A n c bs _ hc).mono ?_
    rintro e w1 ⟨t, p, u, q, rfl, _, _, b1⟩
    obtain ⟨x, y, ok, hA⟩ : ∃ x y ok, addV t p u q = (x, y, ok) := ⟨_, _, _, rfl⟩
    obtain ⟨cc, told, hC⟩ : ∃ cc told, cmpV t p u q = (cc, told) := ⟨_, _, rfl⟩
    obtain ⟨d, told2, hD⟩ : ∃ d told2, cmpV u q t p = (d, told2) := ⟨_, _, rfl⟩
    obtain ⟨h1, h2, half, hH⟩ : ∃ h1 h2 half, halfV t p = (h1, h2, half) := ⟨_, _, _, rfl⟩
    obtain ⟨n1, n2, neg, hN⟩ : ∃ n1 n2 neg, negV t p = (n1, n2, neg) := ⟨_, _, _, rfl⟩
    have kA : Hid (∀ w, Calls Try.prog 30 #[dv t p, dv u q] w fun e w' => e = .returned (rv (x, y, ok)) ∧ Below w.heap.size w w') := Lib.hid (fun w => by rw [← hA]; exact c_AddDyadic t p u q w)
    have kA2 : Hid (∀ w, Calls Try.prog 30 #[dv u q, dv t p] w fun e w' => e = .returned (rv (x, y, ok)) ∧ Below w.heap.size w w') := Lib.hid (fun w => by rw [← hA, addV_comm t p]; exact c_AddDyadic u q t p w)
    have kS : Hid (∀ w, Calls Try.prog 29 #[dv t p, dv u q] w fun e w' => e = .returned (rv (x, y, ok)) ∧ Below w.heap.size w w') := Lib.hid (fun w => by rw [← hA]; exact s_AddDyadic t p u q w)
    have kC : Hid (∀ w, Calls Try.prog 28 #[dv t p, dv u q] w fun e w' => e = .returned (iv (cc, told)) ∧ Below w.heap.size w w') := Lib.hid (fun w => by rw [← hC]; exact c_CompareDyadic t p u q w)
    have kCs : Hid (∀ w, Calls Try.prog 27 #[dv t p, dv u q] w fun e w' => e = .returned (iv (cc, told)) ∧ Below w.heap.size w w') := Lib.hid (fun w => by rw [← hC]; exact s_CompareDyadic t p u q w)
    have kD : Hid (∀ w, Calls Try.prog 28 #[dv u q, dv t p] w fun e w' => e = .returned (iv (d, told2)) ∧ Below w.heap.size w w') := Lib.hid (fun w => by rw [← hD]; exact c_CompareDyadic u q t p w)
    have kH : Hid (∀ w, Calls Try.prog 26 #[dv t p] w fun e w' => e = .returned (rv (h1, h2, half)) ∧ Below w.heap.size w w') := Lib.hid (fun w => by rw [← hH]; exact c_HalfOf t p w)
    have kN : Hid (∀ w, Calls Try.prog 19 #[dv t p] w fun e w' => e = .returned (rv (n1, n2, neg)) ∧ Below w.heap.size w w') := Lib.hid (fun w => by rw [← hN]; exact c_NegDyadic t p w)
    have kHH : Hid (half = true → ∀ w, Calls Try.prog 30 #[dv h1 h2, dv h1 h2] w fun e w' => e = .returned (rv (t, p, true)) ∧ Below w.heap.size w w') :=
      Lib.hid (fun e w => by subst e; rw [← half_twice hH]; exact c_AddDyadic h1 h2 h1 h2 w)
    have kNN : Hid (neg = true → ∀ w, Calls Try.prog 30 #[dv t p, dv n1 n2] w fun e w' => e = .returned (rv (0, 0, true)) ∧ Below w.heap.size w w') :=
      Lib.hid (fun e w => by subst e; rw [← neg_sum hN]; exact c_AddDyadic t p n1 n2 w)
    have kT : Hid (told = true → d = -cc ∧ (cc = -1 ∨ cc = 0 ∨ cc = 1) ∧ (cc = 0 ↔ t = u ∧ p = q)) := Lib.hid (fun e => by
      subst e
      have a := cmpV_anti hC
      rw [hD] at a
      injection a with a1 _
      refine ⟨a1, ?_, cmpV_zero hC⟩
      unfold cmpV at hC
      split at hC
      · injection hC with e1 _
        rw [← e1]; exact cmpI_rng _ _
      · injection hC with _ e2
        cases e2)
    clear hA hC hD hH hN hc m
    go_upto_region 4 with fail
    have B : Below w.heap.size w ((w1.alloc (.cells #[.int .i64 t, .int .i64 p] 26)).alloc (.cells #[.int .i64 u, .int .i64 q] 26)) := (b1.alloc b1.size _).alloc (by have := b1.size; simp; omega) _
    have X3 : Bx ((w1.alloc (.cells #[.int .i64 t, .int .i64 p] 26)).alloc (.cells #[.int .i64 u, .int .i64 q] 26)) w1.heap.size t p := (Bx.new w1 t p _).below ((Below.refl _ _).alloc (Nat.le_refl _) _)
    have X4 : Bx ((w1.alloc (.cells #[.int .i64 t, .int .i64 p] 26)).alloc (.cells #[.int .i64 u, .int .i64 q] 26)) (w1.heap.size + 1) u q := by simpa using Bx.new (w1.alloc (.cells #[.int .i64 t, .int .i64 p] 26)) u q 26
    clear b1
    generalize (w1.alloc (.cells #[.int .i64 t, .int .i64 p] 26)).alloc (.cells #[.int .i64 u, .int .i64 q] 26) = W at *
    generalize w1.heap.size + 1 = g4 at *
    generalize w1.heap.size = g3 at *
    have X3a := X3.1
    have X3b := X3.2.1
    have X4a := X4.1
    have X4b := X4.2.1
    have HX3 := Lib.hid X3
    have HX4 := Lib.hid X4
    have HB := Lib.hid B
    clear B X3 X4
    go_upto_region 5 with (go_at_call 30; refine (kA.out _).mono ?_; rintro e Wn ⟨rfl, b⟩; refine Hid.out ?_)
    refine Lib.hid ?_
    clear X3a X3b
    clear X4a X4b
    go_upto_region 5 with fail
    have B : Below w.heap.size w (Wn.alloc (.cells #[.int .i64 x, .int .i64 y] 26)) := (Below.next HB.out b).alloc (Below.next HB.out b).size _
    have X3 : Bx (Wn.alloc (.cells #[.int .i64 x, .int .i64 y] 26)) g3 _ _ := (HX3.out.below b).below ((Below.refl _ _).alloc (Nat.le_refl _) _)
    have X4 : Bx (Wn.alloc (.cells #[.int .i64 x, .int .i64 y] 26)) g4 _ _ := (HX4.out.below b).below ((Below.refl _ _).alloc (Nat.le_refl _) _)
    have X5 : Bx (Wn.alloc (.cells #[.int .i64 x, .int .i64 y] 26)) Wn.heap.size x y := Bx.new Wn _ _ _
    clear b HB HX3 HX4
    generalize Wn.alloc (.cells #[.int .i64 x, .int .i64 y] 26) = W at *
    generalize Wn.heap.size = g5 at *
    have X3a := X3.1
    have X3b := X3.2.1
    have X4a := X4.1
    have X4b := X4.2.1
    have HX3 := Lib.hid X3
    have HX4 := Lib.hid X4
    have HX5 := Lib.hid X5
    have HB := Lib.hid B
    clear B X3 X4 X5
    go_upto_region 6 with (go_at_call 30; refine (kA2.out _).mono ?_; rintro e Wn ⟨rfl, b⟩; refine Hid.out ?_)
    refine Lib.hid ?_
    clear X3a X3b
    clear X4a X4b
    go_upto_region 6 with fail
    have B : Below w.heap.size w (Wn.alloc (.cells #[.int .i64 x, .int .i64 y] 26)) := (Below.next HB.out b).alloc (Below.next HB.out b).size _
    have X3 : Bx (Wn.alloc (.cells #[.int .i64 x, .int .i64 y] 26)) g3 _ _ := (HX3.out.below b).below ((Below.refl _ _).alloc (Nat.le_refl _) _)
    have X4 : Bx (Wn.alloc (.cells #[.int .i64 x, .int .i64 y] 26)) g4 _ _ := (HX4.out.below b).below ((Below.refl _ _).alloc (Nat.le_refl _) _)
    have X5 : Bx (Wn.alloc (.cells #[.int .i64 x, .int .i64 y] 26)) g5 _ _ := (HX5.out.below b).below ((Below.refl _ _).alloc (Nat.le_refl _) _)
    have X7 : Bx (Wn.alloc (.cells #[.int .i64 x, .int .i64 y] 26)) Wn.heap.size x y := Bx.new Wn _ _ _
    clear b HB HX3 HX4 HX5
    generalize Wn.alloc (.cells #[.int .i64 x, .int .i64 y] 26) = W at *
    generalize Wn.heap.size = g7 at *
    have X3a := X3.1
    have X3b := X3.2.1
    have X4a := X4.1
    have X4b := X4.2.1
    have HX3 := Lib.hid X3
    have HX4 := Lib.hid X4
    have HX5 := Lib.hid X5
    have HX7 := Lib.hid X7
    have HB := Lib.hid B
    clear B X3 X4 X5 X7
    go_upto_region 7 with (go_at_call 29; refine (kS.out _).mono ?_; rintro e Wn ⟨rfl, b⟩; refine Hid.out ?_)
    refine Lib.hid ?_
    clear X3a X3b
    clear X4a X4b
    go_upto_region 7 with fail
    have B : Below w.heap.size w (Wn.alloc (.cells #[.int .i64 x, .int .i64 y] 26)) := (Below.next HB.out b).alloc (Below.next HB.out b).size _
    have X3 : Bx (Wn.alloc (.cells #[.int .i64 x, .int .i64 y] 26)) g3 _ _ := (HX3.out.below b).below ((Below.refl _ _).alloc (Nat.le_refl _) _)
    have X4 : Bx (Wn.alloc (.cells #[.int .i64 x, .int .i64 y] 26)) g4 _ _ := (HX4.out.below b).below ((Below.refl _ _).alloc (Nat.le_refl _) _)
    have X5 : Bx (Wn.alloc (.cells #[.int .i64 x, .int .i64 y] 26)) g5 _ _ := (HX5.out.below b).below ((Below.refl _ _).alloc (Nat.le_refl _) _)
    have X7 : Bx (Wn.alloc (.cells #[.int .i64 x, .int .i64 y] 26)) g7 _ _ := (HX7.out.below b).below ((Below.refl _ _).alloc (Nat.le_refl _) _)
    have X9 : Bx (Wn.alloc (.cells #[.int .i64 x, .int .i64 y] 26)) Wn.heap.size x y := Bx.new Wn _ _ _
    clear b HB HX3 HX4 HX5 HX7
    generalize Wn.alloc (.cells #[.int .i64 x, .int .i64 y] 26) = W at *
    generalize Wn.heap.size = g9 at *
    have X3a := X3.1
    have X3b := X3.2.1
    have X4a := X4.1
    have X4b := X4.2.1
    have HX3 := Lib.hid X3
    have HX4 := Lib.hid X4
    have HX5 := Lib.hid X5
    have HX7 := Lib.hid X7
    have HX9 := Lib.hid X9
    have HB := Lib.hid B
    clear B X3 X4 X5 X7 X9
    go_upto_region 8 with (go_at_call 28; refine (kC.out _).mono ?_; rintro e Wn ⟨rfl, b⟩; refine Hid.out ?_)
    refine Lib.hid ?_
    clear X3a X3b
    clear X4a X4b
    go_upto_region 8 with fail
    have B := Below.next HB.out b
    have X3 := HX3.out.below b
    have X4 := HX4.out.below b
    have X5 := HX5.out.below b
    have X7 := HX7.out.below b
    have X9 := HX9.out.below b
    clear b HB HX3 HX4 HX5 HX7 HX9
    have X3a := X3.1
    have X3b := X3.2.1
    have X4a := X4.1
    have X4b := X4.2.1
    have HX3 := Lib.hid X3
    have HX4 := Lib.hid X4
    have HX5 := Lib.hid X5
    have HX7 := Lib.hid X7
    have HX9 := Lib.hid X9
    have HB := Lib.hid B
    clear B X3 X4 X5 X7 X9
    go_upto_region 9 with (go_at_call 27; refine (kCs.out _).mono ?_; rintro e Wn ⟨rfl, b⟩; refine Hid.out ?_)
    refine Lib.hid ?_
    clear X3a X3b
    clear X4a X4b
    go_upto_region 9 with fail
    have B := Below.next HB.out b
    have X3 := HX3.out.below b
    have X4 := HX4.out.below b
    have X5 := HX5.out.below b
    have X7 := HX7.out.below b
    have X9 := HX9.out.below b
    clear b HB HX3 HX4 HX5 HX7 HX9
    have X5a := X5.1
    have X5b := X5.2.1
    have X7a := X7.1
    have X7b := X7.2.1
    have X9a := X9.1
    have X9b := X9.2.1
    go_upto_region 11 with fail
    clear X5a X5b
    clear X7a X7b
    clear X9a X9b
    clear X5 X7 X9
    have X3a := X3.1
    have X3b := X3.2.1
    have HX3 := Lib.hid X3
    have HX4 := Lib.hid X4
    have HB := Lib.hid B
    clear B X3 X4
    go_upto_region 12 with (go_at_call 26; refine (kH.out _).mono ?_; rintro e Wn ⟨rfl, b⟩; refine Hid.out ?_)
    refine Lib.hid ?_
    clear X3a X3b
    go_upto_region 12 with fail
    have B : Below w.heap.size w (Wn.alloc (.cells #[.int .i64 h1, .int .i64 h2] 26)) := (Below.next HB.out b).alloc (Below.next HB.out b).size _
    have X3 : Bx (Wn.alloc (.cells #[.int .i64 h1, .int .i64 h2] 26)) g3 _ _ := (HX3.out.below b).below ((Below.refl _ _).alloc (Nat.le_refl _) _)
    have X4 : Bx (Wn.alloc (.cells #[.int .i64 h1, .int .i64 h2] 26)) g4 _ _ := (HX4.out.below b).below ((Below.refl _ _).alloc (Nat.le_refl _) _)
    have X15 : Bx (Wn.alloc (.cells #[.int .i64 h1, .int .i64 h2] 26)) Wn.heap.size h1 h2 := Bx.new Wn _ _ _
    clear b HB HX3 HX4
    generalize Wn.alloc (.cells #[.int .i64 h1, .int .i64 h2] 26) = W at *
    generalize Wn.heap.size = g15 at *
    cases half
    · skip
      go_upto_region 16 with fail
      clear X15
      have X3a := X3.1
      have X3b := X3.2.1
      have HX3 := Lib.hid X3
      have HX4 := Lib.hid X4
      have HB := Lib.hid B
      clear B X3 X4
      go_upto_region 17 with (go_at_call 19; refine (kN.out _).mono ?_; rintro e Wn ⟨rfl, b⟩; refine Hid.out ?_)
      refine Lib.hid ?_
      clear X3a X3b
      go_upto_region 17 with fail
      have B : Below w.heap.size w (Wn.alloc (.cells #[.int .i64 n1, .int .i64 n2] 26)) := (Below.next HB.out b).alloc (Below.next HB.out b).size _
      have X3 : Bx (Wn.alloc (.cells #[.int .i64 n1, .int .i64 n2] 26)) g3 _ _ := (HX3.out.below b).below ((Below.refl _ _).alloc (Nat.le_refl _) _)
      have X4 : Bx (Wn.alloc (.cells #[.int .i64 n1, .int .i64 n2] 26)) g4 _ _ := (HX4.out.below b).below ((Below.refl _ _).alloc (Nat.le_refl _) _)
      have X19 : Bx (Wn.alloc (.cells #[.int .i64 n1, .int .i64 n2] 26)) Wn.heap.size n1 n2 := Bx.new Wn _ _ _
      clear b HB HX3 HX4
      generalize Wn.alloc (.cells #[.int .i64 n1, .int .i64 n2] 26) = W at *
      generalize Wn.heap.size = g19 at *
      cases neg
      · skip
        go_upto_region 21 with fail
        clear X19
        have X4a := X4.1
        have X4b := X4.2.1
        have X3a := X3.1
        have X3b := X3.2.1
        have HX3 := Lib.hid X3
        have HX4 := Lib.hid X4
        have HB := Lib.hid B
        clear B X3 X4
        go_upto_region 22 with (go_at_call 28; refine (kD.out _).mono ?_; rintro e Wn ⟨rfl, b⟩; refine Hid.out ?_)
        refine Lib.hid ?_
        clear X4a X4b
        clear X3a X3b
        go_upto_region 22 with fail
        have B := Below.next HB.out b
        have X3 := HX3.out.below b
        have X4 := HX4.out.below b
        clear b HB HX3 HX4
        have X3a := X3.1
        have X3b := X3.2.1
        have X4a := X4.1
        have X4b := X4.2.1
        cases told
        · go_wp2_with fail
          go_ret
          exact ⟨rfl, B⟩
        · obtain ⟨rfl, h3, h0⟩ := kT.out rfl
          rcases h3 with rfl | rfl | rfl
          · have hne : ¬ (t = u ∧ p = q) := fun e => by have := h0.2 e; omega
            clear h0
            by_cases e1 : t = u
            · have e2 : ¬ p = q := fun e => hne ⟨e1, e⟩
              subst e1
              clear hne
              go_wp2_with fail
              go_ret
              exact ⟨rfl, B⟩
            · clear hne
              go_wp2_with fail
              go_ret
              exact ⟨rfl, B⟩
          · obtain ⟨rfl, rfl⟩ := h0.1 rfl
            clear h0
            go_wp2_with fail
            go_ret
            exact ⟨rfl, B⟩
          · have hne : ¬ (t = u ∧ p = q) := fun e => by have := h0.2 e; omega
            clear h0
            by_cases e1 : t = u
            · have e2 : ¬ p = q := fun e => hne ⟨e1, e⟩
              subst e1
              clear hne
              go_wp2_with fail
              go_ret
              exact ⟨rfl, B⟩
            · clear hne
              go_wp2_with fail
              go_ret
              exact ⟨rfl, B⟩
      · skip
        have kNN := Lib.hid (kNN.out rfl)
        have X3a := X3.1
        have X3b := X3.2.1
        have X19a := X19.1
        have X19b := X19.2.1
        have HX3 := Lib.hid X3
        have HX4 := Lib.hid X4
        have HX19 := Lib.hid X19
        have HB := Lib.hid B
        clear B X3 X4 X19
        go_upto_region 19 with (go_at_call 30; refine (kNN.out _).mono ?_; rintro e Wn ⟨rfl, b⟩; refine Hid.out ?_)
        refine Lib.hid ?_
        clear X3a X3b
        clear X19a X19b
        go_upto_region 19 with fail
        have B : Below w.heap.size w (Wn.alloc (.cells #[.int .i64 0, .int .i64 0] 26)) := (Below.next HB.out b).alloc (Below.next HB.out b).size _
        have X3 : Bx (Wn.alloc (.cells #[.int .i64 0, .int .i64 0] 26)) g3 _ _ := (HX3.out.below b).below ((Below.refl _ _).alloc (Nat.le_refl _) _)
        have X4 : Bx (Wn.alloc (.cells #[.int .i64 0, .int .i64 0] 26)) g4 _ _ := (HX4.out.below b).below ((Below.refl _ _).alloc (Nat.le_refl _) _)
        have X19 : Bx (Wn.alloc (.cells #[.int .i64 0, .int .i64 0] 26)) g19 _ _ := (HX19.out.below b).below ((Below.refl _ _).alloc (Nat.le_refl _) _)
        have X21 : Bx (Wn.alloc (.cells #[.int .i64 0, .int .i64 0] 26)) Wn.heap.size 0 0 := Bx.new Wn _ _ _
        clear b HB HX3 HX4 HX19
        generalize Wn.alloc (.cells #[.int .i64 0, .int .i64 0] 26) = W at *
        generalize Wn.heap.size = g21 at *
        have X21a := X21.1
        have X21b := X21.2.1
        go_upto_region 21 with fail
        clear X21a X21b X21 X19
        have X4a := X4.1
        have X4b := X4.2.1
        have X3a := X3.1
        have X3b := X3.2.1
        have HX3 := Lib.hid X3
        have HX4 := Lib.hid X4
        have HB := Lib.hid B
        clear B X3 X4
        go_upto_region 22 with (go_at_call 28; refine (kD.out _).mono ?_; rintro e Wn ⟨rfl, b⟩; refine Hid.out ?_)
        refine Lib.hid ?_
        clear X4a X4b
        clear X3a X3b
        go_upto_region 22 with fail
        have B := Below.next HB.out b
        have X3 := HX3.out.below b
        have X4 := HX4.out.below b
        clear b HB HX3 HX4
        have X3a := X3.1
        have X3b := X3.2.1
        have X4a := X4.1
        have X4b := X4.2.1
        cases told
        · go_wp2_with fail
          go_ret
          exact ⟨rfl, B⟩
        · obtain ⟨rfl, h3, h0⟩ := kT.out rfl
          rcases h3 with rfl | rfl | rfl
          · have hne : ¬ (t = u ∧ p = q) := fun e => by have := h0.2 e; omega
            clear h0
            by_cases e1 : t = u
            · have e2 : ¬ p = q := fun e => hne ⟨e1, e⟩
              subst e1
              clear hne
              go_wp2_with fail
              go_ret
              exact ⟨rfl, B⟩
            · clear hne
              go_wp2_with fail
              go_ret
              exact ⟨rfl, B⟩
          · obtain ⟨rfl, rfl⟩ := h0.1 rfl
            clear h0
            go_wp2_with fail
            go_ret
            exact ⟨rfl, B⟩
          · have hne : ¬ (t = u ∧ p = q) := fun e => by have := h0.2 e; omega
            clear h0
            by_cases e1 : t = u
            · have e2 : ¬ p = q := fun e => hne ⟨e1, e⟩
              subst e1
              clear hne
              go_wp2_with fail
              go_ret
              exact ⟨rfl, B⟩
            · clear hne
              go_wp2_with fail
              go_ret
              exact ⟨rfl, B⟩
    · skip
      have kHH := Lib.hid (kHH.out rfl)
      have X15a := X15.1
      have X15b := X15.2.1
      have HX3 := Lib.hid X3
      have HX4 := Lib.hid X4
      have HX15 := Lib.hid X15
      have HB := Lib.hid B
      clear B X3 X4 X15
      go_upto_region 14 with (go_at_call 30; refine (kHH.out _).mono ?_; rintro e Wn ⟨rfl, b⟩; refine Hid.out ?_)
      refine Lib.hid ?_
      clear X15a X15b
      go_upto_region 14 with fail
      have B : Below w.heap.size w (Wn.alloc (.cells #[.int .i64 t, .int .i64 p] 26)) := (Below.next HB.out b).alloc (Below.next HB.out b).size _
      have X3 : Bx (Wn.alloc (.cells #[.int .i64 t, .int .i64 p] 26)) g3 _ _ := (HX3.out.below b).below ((Below.refl _ _).alloc (Nat.le_refl _) _)
      have X4 : Bx (Wn.alloc (.cells #[.int .i64 t, .int .i64 p] 26)) g4 _ _ := (HX4.out.below b).below ((Below.refl _ _).alloc (Nat.le_refl _) _)
      have X15 : Bx (Wn.alloc (.cells #[.int .i64 t, .int .i64 p] 26)) g15 _ _ := (HX15.out.below b).below ((Below.refl _ _).alloc (Nat.le_refl _) _)
      have X17 : Bx (Wn.alloc (.cells #[.int .i64 t, .int .i64 p] 26)) Wn.heap.size t p := Bx.new Wn _ _ _
      clear b HB HX3 HX4 HX15
      generalize Wn.alloc (.cells #[.int .i64 t, .int .i64 p] 26) = W at *
      generalize Wn.heap.size = g17 at *
      have X17a := X17.1
      have X17b := X17.2.1
      have X3a := X3.1
      have X3b := X3.2.1
      go_upto_region 16 with fail
      clear X17a X17b X3a X3b X17 X15
      have X3a := X3.1
      have X3b := X3.2.1
      have HX3 := Lib.hid X3
      have HX4 := Lib.hid X4
      have HB := Lib.hid B
      clear B X3 X4
      go_upto_region 17 with (go_at_call 19; refine (kN.out _).mono ?_; rintro e Wn ⟨rfl, b⟩; refine Hid.out ?_)
      refine Lib.hid ?_
      clear X3a X3b
      go_upto_region 17 with fail
      have B : Below w.heap.size w (Wn.alloc (.cells #[.int .i64 n1, .int .i64 n2] 26)) := (Below.next HB.out b).alloc (Below.next HB.out b).size _
      have X3 : Bx (Wn.alloc (.cells #[.int .i64 n1, .int .i64 n2] 26)) g3 _ _ := (HX3.out.below b).below ((Below.refl _ _).alloc (Nat.le_refl _) _)
      have X4 : Bx (Wn.alloc (.cells #[.int .i64 n1, .int .i64 n2] 26)) g4 _ _ := (HX4.out.below b).below ((Below.refl _ _).alloc (Nat.le_refl _) _)
      have X19 : Bx (Wn.alloc (.cells #[.int .i64 n1, .int .i64 n2] 26)) Wn.heap.size n1 n2 := Bx.new Wn _ _ _
      clear b HB HX3 HX4
      generalize Wn.alloc (.cells #[.int .i64 n1, .int .i64 n2] 26) = W at *
      generalize Wn.heap.size = g19 at *
      cases neg
      · skip
        go_upto_region 21 with fail
        clear X19
        have X4a := X4.1
        have X4b := X4.2.1
        have X3a := X3.1
        have X3b := X3.2.1
        have HX3 := Lib.hid X3
        have HX4 := Lib.hid X4
        have HB := Lib.hid B
        clear B X3 X4
        go_upto_region 22 with (go_at_call 28; refine (kD.out _).mono ?_; rintro e Wn ⟨rfl, b⟩; refine Hid.out ?_)
        refine Lib.hid ?_
        clear X4a X4b
        clear X3a X3b
        go_upto_region 22 with fail
        have B := Below.next HB.out b
        have X3 := HX3.out.below b
        have X4 := HX4.out.below b
        clear b HB HX3 HX4
        have X3a := X3.1
        have X3b := X3.2.1
        have X4a := X4.1
        have X4b := X4.2.1
        cases told
        · go_wp2_with fail
          go_ret
          exact ⟨rfl, B⟩
        · obtain ⟨rfl, h3, h0⟩ := kT.out rfl
          rcases h3 with rfl | rfl | rfl
          · have hne : ¬ (t = u ∧ p = q) := fun e => by have := h0.2 e; omega
            clear h0
            by_cases e1 : t = u
            · have e2 : ¬ p = q := fun e => hne ⟨e1, e⟩
              subst e1
              clear hne
              go_wp2_with fail
              go_ret
              exact ⟨rfl, B⟩
            · clear hne
              go_wp2_with fail
              go_ret
              exact ⟨rfl, B⟩
          · obtain ⟨rfl, rfl⟩ := h0.1 rfl
            clear h0
            go_wp2_with fail
            go_ret
            exact ⟨rfl, B⟩
          · have hne : ¬ (t = u ∧ p = q) := fun e => by have := h0.2 e; omega
            clear h0
            by_cases e1 : t = u
            · have e2 : ¬ p = q := fun e => hne ⟨e1, e⟩
              subst e1
              clear hne
              go_wp2_with fail
              go_ret
              exact ⟨rfl, B⟩
            · clear hne
              go_wp2_with fail
              go_ret
              exact ⟨rfl, B⟩
      · skip
        have kNN := Lib.hid (kNN.out rfl)
        have X3a := X3.1
        have X3b := X3.2.1
        have X19a := X19.1
        have X19b := X19.2.1
        have HX3 := Lib.hid X3
        have HX4 := Lib.hid X4
        have HX19 := Lib.hid X19
        have HB := Lib.hid B
        clear B X3 X4 X19
        go_upto_region 19 with (go_at_call 30; refine (kNN.out _).mono ?_; rintro e Wn ⟨rfl, b⟩; refine Hid.out ?_)
        refine Lib.hid ?_
        clear X3a X3b
        clear X19a X19b
        go_upto_region 19 with fail
        have B : Below w.heap.size w (Wn.alloc (.cells #[.int .i64 0, .int .i64 0] 26)) := (Below.next HB.out b).alloc (Below.next HB.out b).size _
        have X3 : Bx (Wn.alloc (.cells #[.int .i64 0, .int .i64 0] 26)) g3 _ _ := (HX3.out.below b).below ((Below.refl _ _).alloc (Nat.le_refl _) _)
        have X4 : Bx (Wn.alloc (.cells #[.int .i64 0, .int .i64 0] 26)) g4 _ _ := (HX4.out.below b).below ((Below.refl _ _).alloc (Nat.le_refl _) _)
        have X19 : Bx (Wn.alloc (.cells #[.int .i64 0, .int .i64 0] 26)) g19 _ _ := (HX19.out.below b).below ((Below.refl _ _).alloc (Nat.le_refl _) _)
        have X21 : Bx (Wn.alloc (.cells #[.int .i64 0, .int .i64 0] 26)) Wn.heap.size 0 0 := Bx.new Wn _ _ _
        clear b HB HX3 HX4 HX19
        generalize Wn.alloc (.cells #[.int .i64 0, .int .i64 0] 26) = W at *
        generalize Wn.heap.size = g21 at *
        have X21a := X21.1
        have X21b := X21.2.1
        go_upto_region 21 with fail
        clear X21a X21b X21 X19
        have X4a := X4.1
        have X4b := X4.2.1
        have X3a := X3.1
        have X3b := X3.2.1
        have HX3 := Lib.hid X3
        have HX4 := Lib.hid X4
        have HB := Lib.hid B
        clear B X3 X4
        go_upto_region 22 with (go_at_call 28; refine (kD.out _).mono ?_; rintro e Wn ⟨rfl, b⟩; refine Hid.out ?_)
        refine Lib.hid ?_
        clear X4a X4b
        clear X3a X3b
        go_upto_region 22 with fail
        have B := Below.next HB.out b
        have X3 := HX3.out.below b
        have X4 := HX4.out.below b
        clear b HB HX3 HX4
        have X3a := X3.1
        have X3b := X3.2.1
        have X4a := X4.1
        have X4b := X4.2.1
        cases told
        · go_wp2_with fail
          go_ret
          exact ⟨rfl, B⟩
        · obtain ⟨rfl, h3, h0⟩ := kT.out rfl
          rcases h3 with rfl | rfl | rfl
          · have hne : ¬ (t = u ∧ p = q) := fun e => by have := h0.2 e; omega
            clear h0
            by_cases e1 : t = u
            · have e2 : ¬ p = q := fun e => hne ⟨e1, e⟩
              subst e1
              clear hne
              go_wp2_with fail
              go_ret
              exact ⟨rfl, B⟩
            · clear hne
              go_wp2_with fail
              go_ret
              exact ⟨rfl, B⟩
          · obtain ⟨rfl, rfl⟩ := h0.1 rfl
            clear h0
            go_wp2_with fail
            go_ret
            exact ⟨rfl, B⟩
          · have hne : ¬ (t = u ∧ p = q) := fun e => by have := h0.2 e; omega
            clear h0
            by_cases e1 : t = u
            · have e2 : ¬ p = q := fun e => hne ⟨e1, e⟩
              subst e1
              clear hne
              go_wp2_with fail
              go_ret
              exact ⟨rfl, B⟩
            · clear hne
              go_wp2_with fail
              go_ret
              exact ⟨rfl, B⟩
  · have h65 : (65536 : Int) < (n : Int) := by omega
    clear rd f
    go_enter Try.func13, Try.ntmps13
    go_wp2_with fail
    refine (c_vBig _ _ _ _ m).mono ?_
    rintro e w' ⟨rfl, rfl⟩
    go_wp2_with fail
    go_ret
    exact ⟨rfl, Below.refl _ _⟩
end Go.Proofs.Ytbfabnpcahinfaa
