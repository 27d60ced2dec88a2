/- The walk of the law on the simplest number between two others. -/
import Derived.Test.YtbfabnpcahinfaaDyW
import Derived.Test.YtbfabnpcahinfaaDyS
namespace Go.Proofs.Ytbfabnpcahinfaa
open Go.RowKit

theorem cmpV_lt {t p u q : Int} (h : gd t p = true) (h2 : gd u q = true) (hl : sc 16 t p < sc 16 u q) : cmpV t p u q = (-1, true) := by
  unfold cmpV
  rw [h, h2, Bool.and_self, if_pos rfl]
  unfold cmpI
  rw [if_pos hl]
theorem cmpV_is {t p u q : Int} (h : gd t p = true) (h2 : gd u q = true) {c : Int} {ok : Bool} (hc : cmpV t p u q = (c, ok)) : ok = true ∧ (c = -1 → sc 16 t p < sc 16 u q) := by
  unfold cmpV at hc
  rw [h, h2, Bool.and_self, if_pos rfl] at hc
  injection hc with e1 e2
  refine ⟨e2.symm, fun e => ?_⟩
  subst e1
  unfold cmpI at e
  split at e
  · assumption
  · split at e <;> omega
theorem cmpV_bad {t p u q : Int} (h2 : gd u q = false) {c : Int} {ok : Bool} (hc : cmpV t p u q = (c, ok)) : ok = false := by
  unfold cmpV at hc
  rw [h2, Bool.and_false] at hc
  injection hc with _ e2
  exact e2.symm
/-- All that the last line asks. -/
theorem last_line {t p u q x z v r low high m n : Int} {told told2 ok1 ok2 : Bool} (hs : simV t p u q = (x, z, true)) (hl : cmpV t p v r = (low, told)) (hh : cmpV v r u q = (high, told2))
    (hm : bornV x z = (m, ok1)) (hn : bornV v r = (n, ok2)) : told = false ∨ ¬ low = -1 ∨ ¬ high = -1 ∨ (v = x ∧ r = z) ∨ m < n := by
  obtain ⟨g1, g2, g3, _, _, g6⟩ := simplest hs
  cases hg : gd v r
  · exact .inl (cmpV_bad hg hl)
  · have a := cmpV_is g1 hg hl
    have b := cmpV_is hg g2 hh
    by_cases h1 : low = -1
    · by_cases h2 : high = -1
      · rcases g6 v r hg (a.2 h1) (b.2 h2) with h | h
        · exact .inr (.inr (.inr (.inl h)))
        · right; right; right; right
          unfold bornV at hm hn
          rw [g3, if_pos rfl] at hm
          rw [hg, if_pos rfl] at hn
          injection hm with e1 _
          injection hn with e2 _
          omega
      · exact .inr (.inr (.inl h2))
    · exact .inr (.inl h1)
set_option maxHeartbeats 8000000 in
theorem w_FnBetween (A : Option Addr) (n c : Nat) (bs : List Int) (w : World) (rd : RdV w A n (bs.map (Value.int .u8))) (f : Fits .u8 bs) (m : n ≤ maxLen) (hcap : n ≤ c) (hnil : A = none → c = 0) :
    Calls Try.prog 14 #[.slice A n c] w fun e w' => e = .returned (.bool true) ∧ Below w.heap.size w w' := by
  by_cases hn : n ≤ 65536
  · have hc : Code8 w A n bs := ⟨rd, f, by omega⟩
    have h65 : ¬ (65536 : Int) < (n : Int) := by omega
    have HCut := Lib.hid (fun w h => c_vCut A n c bs w h hn hcap hnil)
    have HC := Lib.hid hc
    clear rd f hcap hnil
    go_enter Try.func14, Try.ntmps14
    go_wp2_with fail
    refine (c_vBig _ _ _ _ m).mono ?_
    rintro e w' ⟨rfl, rfl⟩
    go_wp2_with fail
    refine (c_DrawSimplestBetween A n c bs _ hc).mono ?_
    rintro e w1 ⟨t, p, u, q, rfl, b1⟩
    obtain ⟨x, z, ok, hS⟩ : ∃ x z ok, simV t p u q = (x, z, ok) := ⟨_, _, _, rfl⟩
    have kI : Hid (∀ w, Calls Try.prog 32 #[dv t p, dv u q] w fun e w' => e = .returned (rv (x, z, ok)) ∧ Below w.heap.size w w') := Lib.hid (fun w => by rw [← hS]; exact c_SimplestBetween t p u q w)
    have kS : Hid (∀ w, Calls Try.prog 31 #[dv t p, dv u q] w fun e w' => e = .returned (rv (x, z, ok)) ∧ Below w.heap.size w w') := Lib.hid (fun w => by rw [← hS]; exact s_SimplestBetween t p u q w)
    have HS := Lib.hid hS
    clear hS hc m
    go_upto_region 4 with fail
    have B : Below w.heap.size w ((w1.alloc (.cells #[.int .i64 t, .int .i64 p] 26)).alloc (.cells #[.int .i64 u, .int .i64 q] 26)) := (b1.alloc b1.size _).alloc (by have := b1.size; simp; omega) _
    have X3 : Bx ((w1.alloc (.cells #[.int .i64 t, .int .i64 p] 26)).alloc (.cells #[.int .i64 u, .int .i64 q] 26)) w1.heap.size t p := (Bx.new w1 t p _).below ((Below.refl _ _).alloc (Nat.le_refl _) _)
    have X4 : Bx ((w1.alloc (.cells #[.int .i64 t, .int .i64 p] 26)).alloc (.cells #[.int .i64 u, .int .i64 q] 26)) (w1.heap.size + 1) u q := by simpa using Bx.new (w1.alloc (.cells #[.int .i64 t, .int .i64 p] 26)) u q 26
    clear b1
    generalize (w1.alloc (.cells #[.int .i64 t, .int .i64 p] 26)).alloc (.cells #[.int .i64 u, .int .i64 q] 26) = W at *
    generalize w1.heap.size + 1 = g4 at *
    generalize w1.heap.size = g3 at *
    have X3a := X3.1
    have X3b := X3.2.1
    have X4a := X4.1
    have X4b := X4.2.1
    have HX3 := Lib.hid X3
    have HX4 := Lib.hid X4
    have HB := Lib.hid B
    clear B X3 X4
    go_upto_region 5 with (go_at_call 32; refine (kI.out _).mono ?_; rintro e Wn ⟨rfl, b⟩; refine Hid.out ?_)
    refine Lib.hid ?_
    clear X3a X3b
    clear X4a X4b
    go_upto_region 5 with fail
    have B : Below w.heap.size w (Wn.alloc (.cells #[.int .i64 x, .int .i64 z] 26)) := (Below.next HB.out b).alloc (Below.next HB.out b).size _
    have X3 : Bx (Wn.alloc (.cells #[.int .i64 x, .int .i64 z] 26)) g3 _ _ := (HX3.out.below b).below ((Below.refl _ _).alloc (Nat.le_refl _) _)
    have X4 : Bx (Wn.alloc (.cells #[.int .i64 x, .int .i64 z] 26)) g4 _ _ := (HX4.out.below b).below ((Below.refl _ _).alloc (Nat.le_refl _) _)
    have X5 : Bx (Wn.alloc (.cells #[.int .i64 x, .int .i64 z] 26)) Wn.heap.size x z := Bx.new Wn _ _ _
    clear b HB HX3 HX4
    generalize Wn.alloc (.cells #[.int .i64 x, .int .i64 z] 26) = W at *
    generalize Wn.heap.size = g5 at *
    have X3a := X3.1
    have X3b := X3.2.1
    have X4a := X4.1
    have X4b := X4.2.1
    have HX3 := Lib.hid X3
    have HX4 := Lib.hid X4
    have HX5 := Lib.hid X5
    have HB := Lib.hid B
    clear B X3 X4 X5
    go_upto_region 6 with (go_at_call 31; refine (kS.out _).mono ?_; rintro e Wn ⟨rfl, b⟩; refine Hid.out ?_)
    refine Lib.hid ?_
    clear X3a X3b
    clear X4a X4b
    go_upto_region 6 with fail
    have B : Below w.heap.size w (Wn.alloc (.cells #[.int .i64 x, .int .i64 z] 26)) := (Below.next HB.out b).alloc (Below.next HB.out b).size _
    have X3 : Bx (Wn.alloc (.cells #[.int .i64 x, .int .i64 z] 26)) g3 _ _ := (HX3.out.below b).below ((Below.refl _ _).alloc (Nat.le_refl _) _)
    have X4 : Bx (Wn.alloc (.cells #[.int .i64 x, .int .i64 z] 26)) g4 _ _ := (HX4.out.below b).below ((Below.refl _ _).alloc (Nat.le_refl _) _)
    have X5 : Bx (Wn.alloc (.cells #[.int .i64 x, .int .i64 z] 26)) g5 _ _ := (HX5.out.below b).below ((Below.refl _ _).alloc (Nat.le_refl _) _)
    have X7 : Bx (Wn.alloc (.cells #[.int .i64 x, .int .i64 z] 26)) Wn.heap.size x z := Bx.new Wn _ _ _
    clear b HB HX3 HX4 HX5
    generalize Wn.alloc (.cells #[.int .i64 x, .int .i64 z] 26) = W at *
    generalize Wn.heap.size = g7 at *
    cases ok
    · obtain ⟨rfl, rfl⟩ := simplest_no HS.out
      have X5a := X5.1
      have X5b := X5.2.1
      have X7a := X7.1
      have X7b := X7.2.1
      go_wp2_with fail
      go_ret
      exact ⟨rfl, B⟩
    · obtain ⟨g1, g2, g3, g4, g5, _⟩ := simplest HS.out
      have k1 : Hid (∀ w, Calls Try.prog 28 #[dv t p, dv x z] w fun e w' => e = .returned (iv (-1, true)) ∧ Below w.heap.size w w') := Lib.hid (fun w => by rw [← cmpV_lt g1 g3 g4]; exact c_CompareDyadic t p x z w)
      have k2 : Hid (∀ w, Calls Try.prog 28 #[dv x z, dv u q] w fun e w' => e = .returned (iv (-1, true)) ∧ Below w.heap.size w w') := Lib.hid (fun w => by rw [← cmpV_lt g3 g2 g5]; exact c_CompareDyadic x z u q w)
      clear g1 g2 g3 g4 g5
      have X5a := X5.1
      have X5b := X5.2.1
      have X7a := X7.1
      have X7b := X7.2.1
      go_upto_region 10 with fail
      clear X5a X5b X7a X7b X7
      have X3a := X3.1
      have X3b := X3.2.1
      have X5a := X5.1
      have X5b := X5.2.1
      have HX3 := Lib.hid X3
      have HX4 := Lib.hid X4
      have HX5 := Lib.hid X5
      have HB := Lib.hid B
      clear B X3 X4 X5
      go_upto_region 11 with (go_at_call 28; refine (k1.out _).mono ?_; rintro e Wn ⟨rfl, b⟩; refine Hid.out ?_)
      refine Lib.hid ?_
      clear X3a X3b
      clear X5a X5b
      go_upto_region 11 with fail
      have B := Below.next HB.out b
      have X3 := HX3.out.below b
      have X4 := HX4.out.below b
      have X5 := HX5.out.below b
      clear b HB HX3 HX4 HX5
      have X5a := X5.1
      have X5b := X5.2.1
      have X4a := X4.1
      have X4b := X4.2.1
      have HX3 := Lib.hid X3
      have HX4 := Lib.hid X4
      have HX5 := Lib.hid X5
      have HB := Lib.hid B
      clear B X3 X4 X5
      go_upto_region 12 with (go_at_call 28; refine (k2.out _).mono ?_; rintro e Wn ⟨rfl, b⟩; refine Hid.out ?_)
      refine Lib.hid ?_
      clear X5a X5b
      clear X4a X4b
      go_upto_region 12 with fail
      have B := Below.next HB.out b
      have X3 := HX3.out.below b
      have X4 := HX4.out.below b
      have X5 := HX5.out.below b
      clear b HB HX3 HX4 HX5
      have HX3 := Lib.hid X3
      have HX4 := Lib.hid X4
      have HX5 := Lib.hid X5
      have HB := Lib.hid B
      clear B X3 X4 X5
      go_wp2_with (go_at_call 42; refine (HCut.out _ (HC.out.below HB.out)).mono ?_; rintro e wa ⟨A', n', c', bs', rfl, hc', ba⟩; refine Hid.out ?_)
      refine Lib.hid ?_
      go_wp2_with (go_at_call 41; refine (c_DrawGoodDyadic A' n' c' bs' _ hc').mono ?_; rintro e Wn ⟨v, r, rfl, bb⟩; refine Hid.out ?_)
      refine Lib.hid ?_
      have b : Below _ _ Wn := Below.next ba bb
      clear ba bb hc'
      go_upto_region 13 with fail
      have B : Below w.heap.size w (Wn.alloc (.cells #[.int .i64 v, .int .i64 r] 26)) := (Below.next HB.out b).alloc (Below.next HB.out b).size _
      have X3 : Bx (Wn.alloc (.cells #[.int .i64 v, .int .i64 r] 26)) g3 _ _ := (HX3.out.below b).below ((Below.refl _ _).alloc (Nat.le_refl _) _)
      have X4 : Bx (Wn.alloc (.cells #[.int .i64 v, .int .i64 r] 26)) g4 _ _ := (HX4.out.below b).below ((Below.refl _ _).alloc (Nat.le_refl _) _)
      have X5 : Bx (Wn.alloc (.cells #[.int .i64 v, .int .i64 r] 26)) g5 _ _ := (HX5.out.below b).below ((Below.refl _ _).alloc (Nat.le_refl _) _)
      have X13 : Bx (Wn.alloc (.cells #[.int .i64 v, .int .i64 r] 26)) Wn.heap.size v r := Bx.new Wn _ _ _
      clear b HB HX3 HX4 HX5
      generalize Wn.alloc (.cells #[.int .i64 v, .int .i64 r] 26) = W at *
      generalize Wn.heap.size = g13 at *
      obtain ⟨low, told, hl⟩ : ∃ low told, cmpV t p v r = (low, told) := ⟨_, _, rfl⟩
      obtain ⟨high, told2, hh⟩ : ∃ high told2, cmpV v r u q = (high, told2) := ⟨_, _, rfl⟩
      obtain ⟨mm, ok1, hm⟩ : ∃ mm ok1, bornV x z = (mm, ok1) := ⟨_, _, rfl⟩
      obtain ⟨nn, ok2, hnn⟩ : ∃ nn ok2, bornV v r = (nn, ok2) := ⟨_, _, rfl⟩
      have hfin := Lib.hid (last_line HS.out hl hh hm hnn)
      have k3 : Hid (∀ w, Calls Try.prog 28 #[dv t p, dv v r] w fun e w' => e = .returned (iv (low, told)) ∧ Below w.heap.size w w') := Lib.hid (fun w => by rw [← hl]; exact c_CompareDyadic t p v r w)
      have k4 : Hid (∀ w, Calls Try.prog 28 #[dv v r, dv u q] w fun e w' => e = .returned (iv (high, told2)) ∧ Below w.heap.size w w') := Lib.hid (fun w => by rw [← hh]; exact c_CompareDyadic v r u q w)
      have k5 : Hid (∀ w, Calls Try.prog 22 #[dv x z] w fun e w' => e = .returned (iv (mm, ok1)) ∧ Below w.heap.size w w') := Lib.hid (fun w => by rw [← hm]; exact c_BornOfDyadic x z w)
      have k6 : Hid (∀ w, Calls Try.prog 22 #[dv v r] w fun e w' => e = .returned (iv (nn, ok2)) ∧ Below w.heap.size w w') := Lib.hid (fun w => by rw [← hnn]; exact c_BornOfDyadic v r w)
      clear hl hh hm hnn
      have X3a := X3.1
      have X3b := X3.2.1
      have X13a := X13.1
      have X13b := X13.2.1
      have HX3 := Lib.hid X3
      have HX4 := Lib.hid X4
      have HX5 := Lib.hid X5
      have HX13 := Lib.hid X13
      have HB := Lib.hid B
      clear B X3 X4 X5 X13
      go_upto_region 14 with (go_at_call 28; refine (k3.out _).mono ?_; rintro e Wn ⟨rfl, b⟩; refine Hid.out ?_)
      refine Lib.hid ?_
      clear X3a X3b
      clear X13a X13b
      go_upto_region 14 with fail
      have B := Below.next HB.out b
      have X3 := HX3.out.below b
      have X4 := HX4.out.below b
      have X5 := HX5.out.below b
      have X13 := HX13.out.below b
      clear b HB HX3 HX4 HX5 HX13
      have X13a := X13.1
      have X13b := X13.2.1
      have X4a := X4.1
      have X4b := X4.2.1
      have HX3 := Lib.hid X3
      have HX4 := Lib.hid X4
      have HX5 := Lib.hid X5
      have HX13 := Lib.hid X13
      have HB := Lib.hid B
      clear B X3 X4 X5 X13
      go_upto_region 15 with (go_at_call 28; refine (k4.out _).mono ?_; rintro e Wn ⟨rfl, b⟩; refine Hid.out ?_)
      refine Lib.hid ?_
      clear X13a X13b
      clear X4a X4b
      go_upto_region 15 with fail
      have B := Below.next HB.out b
      have X3 := HX3.out.below b
      have X4 := HX4.out.below b
      have X5 := HX5.out.below b
      have X13 := HX13.out.below b
      clear b HB HX3 HX4 HX5 HX13
      have X5a := X5.1
      have X5b := X5.2.1
      have HX3 := Lib.hid X3
      have HX4 := Lib.hid X4
      have HX5 := Lib.hid X5
      have HX13 := Lib.hid X13
      have HB := Lib.hid B
      clear B X3 X4 X5 X13
      go_upto_region 16 with (go_at_call 22; refine (k5.out _).mono ?_; rintro e Wn ⟨rfl, b⟩; refine Hid.out ?_)
      refine Lib.hid ?_
      clear X5a X5b
      go_upto_region 16 with fail
      have B := Below.next HB.out b
      have X3 := HX3.out.below b
      have X4 := HX4.out.below b
      have X5 := HX5.out.below b
      have X13 := HX13.out.below b
      clear b HB HX3 HX4 HX5 HX13
      have X13a := X13.1
      have X13b := X13.2.1
      have HX3 := Lib.hid X3
      have HX4 := Lib.hid X4
      have HX5 := Lib.hid X5
      have HX13 := Lib.hid X13
      have HB := Lib.hid B
      clear B X3 X4 X5 X13
      go_upto_region 17 with (go_at_call 22; refine (k6.out _).mono ?_; rintro e Wn ⟨rfl, b⟩; refine Hid.out ?_)
      refine Lib.hid ?_
      clear X13a X13b
      go_upto_region 17 with fail
      have B := Below.next HB.out b
      have X3 := HX3.out.below b
      have X4 := HX4.out.below b
      have X5 := HX5.out.below b
      have X13 := HX13.out.below b
      clear b HB HX3 HX4 HX5 HX13
      have X13a := X13.1
      have X13b := X13.2.1
      have X5a := X5.1
      have X5b := X5.2.1
      have hfin := hfin.out
      rcases hfin with h | h | h | h | h
      · subst h
        go_wp2_with fail
        go_ret
        exact ⟨rfl, B⟩
      · have h1 : (low != -1) = true := by simpa using h
        go_wp2_with fail
        all_goals
          go_ret
          exact ⟨rfl, B⟩
      · have h1 : (high != -1) = true := by simpa using h
        go_wp2_with fail
        all_goals
          go_ret
          exact ⟨rfl, B⟩
      · obtain ⟨rfl, rfl⟩ := h
        go_wp2_with fail
        all_goals
          go_ret
          exact ⟨rfl, B⟩
      · go_wp2_with fail
        all_goals
          go_ret
          exact ⟨rfl, B⟩
  · have h65 : (65536 : Int) < (n : Int) := by omega
    clear rd f hcap hnil
    go_enter Try.func14, Try.ntmps14
    go_wp2_with fail
    refine (c_vBig _ _ _ _ m).mono ?_
    rintro e w' ⟨rfl, rfl⟩
    go_wp2_with fail
    go_ret
    exact ⟨rfl, Below.refl _ _⟩
end Go.Proofs.Ytbfabnpcahinfaa
