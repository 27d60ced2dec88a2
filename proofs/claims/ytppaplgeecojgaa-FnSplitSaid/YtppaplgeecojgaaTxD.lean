/- Splitting a text at a byte, by the program and by the reference; the walk of the law on SplitText. -/
import Derived.Test.YtppaplgeecojgaaTxC
namespace Go.Proofs.Ytppaplgeecojgaa
open Go.RowKit

/-- The parts that are complete behind k bytes, and where the next one begins. -/
def partsTo (s : ByteArray) (b : UInt8) : Nat → List ByteArray × Nat
  | 0 => ([], 0)
  | k + 1 => if s.data.toList.getD k 0 = b then ((partsTo s b k).1 ++ [s.extract (partsTo s b k).2 k], k + 1) else partsTo s b k
theorem getB {s : ByteArray} {k : Nat} (h : k < s.size) : s.data.toList.getD k 0 = s[k] := by
  have : k < s.data.size := h
  rw [List.getD_eq_getElem?_getD, Array.getElem?_toList, Array.getElem?_eq_getElem this]
  rfl
theorem parts_yes {s : ByteArray} {b : UInt8} {k : Nat} (hk : k < s.size) (h : s[k] = b) {ps : List ByteArray} {f : Nat} (hp : partsTo s b k = (ps, f)) : partsTo s b (k + 1) = (ps ++ [s.extract f k], k + 1) := by
  rw [partsTo, getB hk, if_pos h, hp]
theorem parts_no {s : ByteArray} {b : UInt8} {k : Nat} (hk : k < s.size) (h : ¬ s[k] = b) : partsTo s b (k + 1) = partsTo s b k := by
  rw [partsTo, getB hk, if_neg h]
def splitL (s : ByteArray) (b : UInt8) : List ByteArray := (partsTo s b s.size).1 ++ [s.extract (partsTo s b s.size).2 s.size]
theorem splitL_eq {s : ByteArray} {b : UInt8} {ps : List ByteArray} {f : Nat} (hp : partsTo s b s.size = (ps, f)) : splitL s b = ps ++ [s.extract f s.size] := by rw [splitL, hp]
/-- A new slice of texts. -/
def StrsP (w : World) (l : List ByteArray) (e : Ending) (w' : World) : Prop :=
  ∃ A c, e = .returned (.slice A l.length c) ∧ OwnS w' w.heap.size A c l ∧ Below w.heap.size w w'
def StrsB (w : World) (m : List ByteArray × Bool) (e : Ending) (w' : World) : Prop :=
  ∃ A c, e = .returned (.tuple #[.slice A m.1.length c, .bool m.2]) ∧ OwnS w' w.heap.size A c m.1 ∧ Below w.heap.size w w'
def splitT (s sign : ByteArray) : List ByteArray × Bool := if s.size ≤ 4000 ∧ sign.size = 1 then (splitL s (sign.data.toList.getD 0 0), true) else ([], false)
theorem splitT_no {s sign : ByteArray} (h : ¬ (s.size ≤ 4000 ∧ sign.size = 1)) : splitT s sign = ([], false) := if_neg h
theorem splitT_yes {s sign : ByteArray} (h : s.size ≤ 4000) (h1 : sign.size = 1) (h0 : 0 < sign.size) : splitT s sign = (splitL s sign[0], true) := by rw [splitT, if_pos ⟨h, h1⟩, getB h0]
theorem own_litS (w : World) (base : Nat) (hb : base ≤ w.heap.size) : OwnS (w.alloc (.cells #[] 9)) base (some ⟨w.heap.size, 0, none⟩) 0 [] := own_lit0 w _ _ hb

set_option maxHeartbeats 1600000 in
theorem s_l1Split (s : ByteArray) (b : UInt8) (w : World) (hs : s.size ≤ 4000) :
    Calls Try.prog 26 #[.string s, .int .u8 (b.toNat : Int)] w (StrsP w (splitL s b)) := by
  go_enter Try.func26, Try.ntmps26
  go_wp2_with fail
  go_loopg [5, 6, 7] s.size (fun m o f i wr => ∃ (k g cap n fr : Nat) (ps : List ByteArray), k ≤ s.size ∧ m = s.size - k ∧ i = .int .i64 k ∧ f = .int .i64 fr ∧ fr ≤ k ∧ o = .slice (some ⟨g, 0, none⟩) n cap ∧ n ≤ k ∧ n = ps.length ∧
      wr.ownsRow w.heap.size 9 1 (.slice (some ⟨g, 0, none⟩) n cap) n (ps.map Value.string) ∧ w.heap.size ≤ g ∧ Below w.heap.size w wr ∧ Hid (partsTo s b k = (ps, fr)))
  case atStart => exact ⟨0, w.heap.size, 0, 0, 0, [], Nat.zero_le _, rfl, rfl, rfl, by omega, rfl, by omega, rfl, own_litS w _ (Nat.le_refl _), Nat.le_refl _, by go_grown, Lib.hid rfl⟩
  case round =>
    obtain ⟨k, g, cap, n, fr, ps, hk, rfl, rfl, rfl, hfk, rfl, hnk, hnl, hown, hgw, hb, hp⟩ := hrel
    have Hnl := Lib.hid hnl
    clear hnl
    have hB : w.heap.size ≤ wr.heap.size := hb.size
    by_cases hlt : k < s.size
    · by_cases hc : s[k] = b
      · have hp' := Lib.hid (parts_yes hlt hc hp.out)
        have Hb := Lib.hid hb
        clear hb
        have hc2 : (((s[k]).toNat : Int) == (b.toNat : Int)) = true := by rw [hc]; simp
        go_wp2_with (at_builtin; refine app1 _ 26 9 (.string ⟨#[]⟩) 16 Try.underlying26 hI_str rfl rfl (.tmp 20) (.tmp 25) rfl w.heap.size _ _ _ rfl hown (.string (s.extract fr k)) rfl rfl (by omega) (by omega) hB ?_; intro g' cap' w' h1 h2 h3)
        go_roundg (s.size - (k + 1))
        case measure => omega
        case rel =>
          refine ⟨k + 1, g', cap', n + 1, k + 1, ps ++ [s.extract fr k], by omega, rfl, by go_num, by go_num, by omega, rfl, by omega, by simp [Hnl.out], ?_, ?_, Hb.out.grown h2 hB (by intro q hq; have := Option.some.inj (show some g = some q from hq); omega), hp'⟩
          · rw [List.map_append]; exact h1
          · rcases h3 with h3 | h3
            · have := Option.some.inj (show some g = some g' from h3); omega
            · omega
      · have hp' := Lib.hid ((parts_no hlt hc).trans hp.out)
        have hc2 : (((s[k]).toNat : Int) == (b.toNat : Int)) = false := by
          rw [beq_eq_false_iff_ne]
          intro e
          exact hc (UInt8.toNat_inj.1 (by omega))
        have Hc := Lib.hid hc
        clear hc
        go_wp2_with fail
        go_roundg (s.size - (k + 1))
        case measure => omega
        case rel => exact ⟨k + 1, g, cap, n, fr, ps, by omega, rfl, by go_num, rfl, by omega, rfl, by omega, Hnl.out, hown, hgw, hb, hp'⟩
    · obtain rfl : k = s.size := by omega
      have fin := Lib.hid (splitL_eq hp.out)
      have Hb := Lib.hid hb
      clear hb
      go_wp2_with (at_builtin; refine app1 _ 26 9 (.string ⟨#[]⟩) 16 Try.underlying26 hI_str rfl rfl (.tmp 29) (.tmp 33) rfl w.heap.size _ _ _ rfl hown (.string (s.extract fr s.size)) rfl rfl (by omega) (by omega) hB ?_; intro g' cap' w' h1 h2 h3)
      go_ret
      refine ⟨some ⟨g', 0, none⟩, cap', by rw [fin.out, List.length_append, ← Hnl.out]; rfl, ?_, Hb.out.grown h2 hB (by intro q hq; have := Option.some.inj (show some g = some q from hq); omega)⟩
      rw [fin.out, OwnS, List.length_append, ← Hnl.out, List.map_append]
      exact h1
set_option maxHeartbeats 1600000 in
theorem c_SplitText (s sign : ByteArray) (w : World) (hs : s.size ≤ 1048576) (hsg : sign.size ≤ 1048576) :
    Calls Try.prog 13 #[.string s, .string sign] w (StrsB w (splitT s sign)) := by
  by_cases h4 : s.size ≤ 4000
  · by_cases h1 : sign.size = 1
    · have h0 : 0 < sign.size := by omega
      have finT := Lib.hid (splitT_yes h4 h1 h0)
      obtain ⟨b, hbb⟩ : ∃ b, Hid (sign[0] = b) := ⟨_, Lib.hid rfl⟩
      rw [hbb.out] at finT
      have h41 : (s.size : Int) ≤ 4000 := by omega
      have h11 : ((sign.size : Int) != 1) = false := by simp [h1]
      clear h1
      go_enter Try.func13, Try.ntmps13
      go_wp2_with fail
      go_loopg [6, 7, 21] s.size (fun m o f i wr => ∃ (k g cap n fr : Nat) (ps : List ByteArray), k ≤ s.size ∧ m = s.size - k ∧ i = .int .i64 k ∧ f = .int .i64 fr ∧ fr ≤ k ∧ o = .slice (some ⟨g, 0, none⟩) n cap ∧ n ≤ k ∧ n = ps.length ∧
          wr.ownsRow w.heap.size 9 1 (.slice (some ⟨g, 0, none⟩) n cap) n (ps.map Value.string) ∧ w.heap.size ≤ g ∧ Below w.heap.size w wr ∧ Hid (partsTo s b k = (ps, fr)))
      case atStart => exact ⟨0, w.heap.size, 0, 0, 0, [], Nat.zero_le _, rfl, rfl, rfl, by omega, rfl, by omega, rfl, own_litS w _ (Nat.le_refl _), Nat.le_refl _, by go_grown, Lib.hid rfl⟩
      case round =>
        obtain ⟨k, g, cap, n, fr, ps, hk, rfl, rfl, rfl, hfk, rfl, hnk, hnl, hown, hgw, hb, hp⟩ := hrel
        have Hnl := Lib.hid hnl
        clear hnl
        have hB : w.heap.size ≤ wr.heap.size := hb.size
        by_cases hlt : k < s.size
        · have k0 : (0 : Int) ≤ k := by omega
          have k1 : (k : Int) < s.size := by omega
          have z1 : (0 : Int) < sign.size := by omega
          by_cases hc : s[k] = b
          · have hp' := Lib.hid (parts_yes hlt hc hp.out)
            have Hb := Lib.hid hb
            clear hb
            have hc2 : (((s[k]).toNat : Int) == ((sign[0]).toNat : Int)) = true := by rw [hc, hbb.out]; simp
            clear hc
            go_wp2_with fail
            go_quiet (fail)
            clear hc2
            go_wp2_with (at_builtin; refine app1 _ 26 9 (.string ⟨#[]⟩) 16 Try.underlying26 hI_str rfl rfl (.tmp 30) (.tmp 35) rfl w.heap.size _ _ _ rfl hown (.string (s.extract fr k)) rfl rfl (by omega) (by omega) hB ?_; intro g' cap' w' h1 h2 h3)
            go_roundg (s.size - (k + 1))
            case measure => omega
            case rel =>
              refine ⟨k + 1, g', cap', n + 1, k + 1, ps ++ [s.extract fr k], by omega, rfl, by go_num, by go_num, by omega, rfl, by omega, by simp [Hnl.out], ?_, ?_, (Below.next Hb.out ((Q.refl _).drew _).below).grown h2 hB (by intro q hq; have := Option.some.inj (show some g = some q from hq); omega), hp'⟩
              · rw [List.map_append]; exact h1
              · rcases h3 with h3 | h3
                · have := Option.some.inj (show some g = some g' from h3); omega
                · have h3' : wr.heap.size ≤ g' := h3
                  omega
          · have hp' := Lib.hid ((parts_no hlt hc).trans hp.out)
            have hc2 : (((s[k]).toNat : Int) == ((sign[0]).toNat : Int)) = false := by
              rw [beq_eq_false_iff_ne, hbb.out]
              intro e
              exact hc (UInt8.toNat_inj.1 (by omega))
            clear hc
            have Hb := Lib.hid hb
            clear hb
            go_wp2_with fail
            go_quiet (fail)
            clear hc2
            go_wp2_with fail
            go_roundg (s.size - (k + 1))
            case measure => omega
            case rel => exact ⟨k + 1, g, cap, n, fr, ps, by omega, rfl, by go_num, rfl, by omega, rfl, by omega, Hnl.out, hown, hgw, Below.next Hb.out ((Q.refl _).drew _).below, hp'⟩
        · obtain rfl : k = s.size := by omega
          have fin := Lib.hid (splitL_eq hp.out)
          have Hb := Lib.hid hb
          clear hb
          go_wp2_with (at_builtin; refine app1 _ 26 9 (.string ⟨#[]⟩) 16 Try.underlying26 hI_str rfl rfl (.tmp 40) (.tmp 44) rfl w.heap.size _ _ _ rfl hown (.string (s.extract fr s.size)) rfl rfl (by omega) (by omega) hB ?_; intro g' cap' w' h1 h2 h3)
          refine bodyPost_ret (results_tmp2 rfl _ _ _) rfl ⟨some ⟨g', 0, none⟩, cap', ?_, ?_, Hb.out.grown h2 hB (by intro q hq; have := Option.some.inj (show some g = some q from hq); omega)⟩
          · rw [finT.out, fin.out, List.length_append, ← Hnl.out]; rfl
          · rw [finT.out, fin.out, OwnS, List.length_append, ← Hnl.out, List.map_append]
            exact h1
    · have fin := Lib.hid (splitT_no (s := s) (sign := sign) (fun h => h1 h.2))
      have h41 : (s.size : Int) ≤ 4000 := by omega
      have h11 : ((sign.size : Int) != 1) = true := by simp; omega
      clear h1
      go_enter Try.func13, Try.ntmps13
      go_wp2_with fail
      refine bodyPost_ret (results_tmp2 rfl _ _ _) rfl ⟨some ⟨w.heap.size, 0, none⟩, 0, ?_, ?_, by go_grown⟩
      · rw [fin.out]; rfl
      · rw [fin.out]; exact own_litS w _ (Nat.le_refl _)
  · have fin := Lib.hid (splitT_no (s := s) (sign := sign) (fun h => h4 h.1))
    have h41 : (4000 : Int) < (s.size : Int) := by omega
    go_enter Try.func13, Try.ntmps13
    go_wp2_with fail
    refine bodyPost_ret (results_tmp2 rfl _ _ _) rfl ⟨some ⟨w.heap.size, 0, none⟩, 0, ?_, ?_, by go_grown⟩
    · rw [fin.out]; rfl
    · rw [fin.out]; exact own_litS w _ (Nat.le_refl _)
set_option maxHeartbeats 800000 in
theorem s_SplitText (s sign : ByteArray) (w : World) (hs : s.size ≤ 1048576) (hsg : sign.size ≤ 1048576) :
    Calls Try.prog 12 #[.string s, .string sign] w (StrsB w (splitT s sign)) := by
  by_cases h1 : sign.size = 1
  · have h11 : ((sign.size : Int) != 1) = false := by simp [h1]
    by_cases h4 : s.size ≤ 4000
    · have h0 : 0 < sign.size := by omega
      have finT := Lib.hid (splitT_yes h4 h1 h0)
      have HL := Lib.hid (s_l1Split s sign[0] w h4)
      have h41 : (s.size : Int) ≤ 4000 := by omega
      clear h1
      go_enter Try.func12, Try.ntmps12
      go_wp2_with fail
      refine HL.out.mono ?_
      rintro e w1 ⟨A, c, rfl, o1, b1⟩
      have O1 := Lib.hid o1
      have B1 := Lib.hid b1
      clear o1 b1
      go_wp2_with fail
      refine bodyPost_ret (results_tmp2 rfl _ _ _) rfl ⟨A, c, ?_, ?_, B1.out⟩
      · rw [finT.out]; rfl
      · rw [finT.out]; exact O1.out
    · have fin := Lib.hid (splitT_no (s := s) (sign := sign) (fun h => h4 h.1))
      have h41 : (4000 : Int) < (s.size : Int) := by omega
      clear h1
      go_enter Try.func12, Try.ntmps12
      go_wp2_with fail
      refine bodyPost_ret (results_tmp2 rfl _ _ _) rfl ⟨some ⟨w.heap.size, 0, none⟩, 0, ?_, ?_, by go_grown⟩
      · rw [fin.out]; rfl
      · rw [fin.out]; exact own_litS w _ (Nat.le_refl _)
  · have fin := Lib.hid (splitT_no (s := s) (sign := sign) (fun h => h1 h.2))
    have h11 : ((sign.size : Int) != 1) = true := by simp; omega
    clear h1
    go_enter Try.func12, Try.ntmps12
    go_wp2_with fail
    refine bodyPost_ret (results_tmp2 rfl _ _ _) rfl ⟨some ⟨w.heap.size, 0, none⟩, 0, ?_, ?_, by go_grown⟩
    · rw [fin.out]; rfl
    · rw [fin.out]; exact own_litS w _ (Nat.le_refl _)
theorem partsTo_len (s : ByteArray) (b : UInt8) : ∀ k, (partsTo s b k).1.length ≤ k
  | 0 => Nat.le_refl _
  | k + 1 => by
    have := partsTo_len s b k
    rw [partsTo]
    split
    · simp; omega
    · omega
theorem splitT_len (s sign : ByteArray) : (splitT s sign).1.length ≤ 4001 := by
  unfold splitT
  split
  · rename_i h
    have := partsTo_len s (sign.data.toList.getD 0 0) s.size
    rw [splitL, List.length_append]
    simp only [List.length_singleton]
    omega
  · simp
set_option maxHeartbeats 1600000 in
theorem w_FnExactSplitText (s sign : ByteArray) (w : World) (hs : s.size ≤ maxLen) (hsg : sign.size ≤ maxLen) :
    Calls Try.prog 5 #[.string s, .string sign] w fun e w' => e = .returned (.bool true) ∧ Below w.heap.size w w' := by
  unfold maxLen at hs hsg
  by_cases hn : s.size ≤ 1048576
  · by_cases hn2 : sign.size ≤ 1048576
    · obtain ⟨m, Hm⟩ : ∃ m, Hid (splitT s sign = m) := ⟨_, Lib.hid rfl⟩
      have hl : Hid (m.1.length ≤ 4001) := Lib.hid (by rw [← Hm.out]; exact splitT_len s sign)
      have HS : ∀ w, Calls Try.prog 12 #[.string s, .string sign] w (StrsB w m) := fun w => by have := s_SplitText s sign w hn hn2; rwa [Hm.out] at this
      have HC : ∀ w, Calls Try.prog 13 #[.string s, .string sign] w (StrsB w m) := fun w => by have := c_SplitText s sign w hn hn2; rwa [Hm.out] at this
      obtain ⟨xs, ok⟩ := m
      have hl : xs.length ≤ 4001 := hl.out
      go_enter Try.func5, Try.ntmps5
      go_wp2_with fail
      refine (HS _).mono ?_
      rintro e w1 ⟨A, c, rfl, o1, b1⟩
      go_wp2_with fail
      refine (HC _).mono ?_
      rintro e w2 ⟨A', c', rfl, o2, b2⟩
      have B2 := Below.next b1 b2
      have r1 := o1.rd.below b2
      have r2 := o2.rd
      go_wp2_with fail
      refine (c_eqStringS_same _ _ _ _ _ xs _ r2 r1 (by omega)).mono ?_
      rintro e w3 ⟨rfl, q3⟩
      have B3 := Below.next B2 q3.below
      have o3 := own_below o2 q3.below
      have r1 := r1.q q3
      go_wp2_with fail
      refine (c_markStringS _ _ _ xs 1 _ o3 (by omega) (by decide) (by decide)).mono ?_
      rintro e w4 ⟨rfl, o4, g4⟩
      have r1 := RdS.grown r1 o3 (OwnS.old o1 (Nat.le_refl _)) g4
      have B4 := B3.grown g4 B3.size (fun k hk => Nat.le_trans b1.size (o3.lt k hk).1)
      have r4 : RdS w4 A' xs.length (mkS 1 xs.length) := RdV.of_own o4
      have hk0 : (0 : Int) ≤ 1 + (xs.length : Int) := by omega
      go_wp2_with fail
      refine (c_heldStringS _ _ _ 1 _ r4 (by omega) (by decide) (by decide)).mono ?_
      rintro e w5 ⟨rfl, b5⟩
      have B5 := Below.next B4 b5
      have r1 := r1.below b5
      have r4 := r4.below b5
      go_wp2_with fail
      refine (HC _).mono ?_
      rintro e w6 ⟨A3, c3, rfl, o6, b6⟩
      have B6 := Below.next B5 b6
      have r1 := r1.below b6
      have r4 := r4.below b6
      go_wp2_with fail
      refine (c_eqStringS_same _ _ _ _ _ xs _ o6.rd r1 (by omega)).mono ?_
      rintro e w7 ⟨rfl, q7⟩
      have B7 := Below.next B6 q7.below
      have r4 := r4.q q7
      go_wp2_with fail
      refine (c_heldStringS _ _ _ 1 _ r4 (by omega) (by decide) (by decide)).mono ?_
      rintro e w8 ⟨rfl, b8⟩
      have B8 := Below.next B7 b8
      go_wp2_with fail
      go_ret
      exact ⟨rfl, B8⟩
    · have h2 : ¬ (sign.size : Int) ≤ 1048576 := by omega
      go_enter Try.func5, Try.ntmps5
      go_wp2_with fail
      go_ret
      exact ⟨rfl, Below.refl _ _⟩
  · go_enter Try.func5, Try.ntmps5
    go_wp2_with fail
    go_ret
    exact ⟨rfl, Below.refl _ _⟩
end Go.Proofs.Ytppaplgeecojgaa
