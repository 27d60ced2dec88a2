/- Codes and their texts: contracts of CodeText and ReadCode, the walks of their laws. -/
import Derived.Test.YtnajhlgdncdhbaaHpA
import Derived.Test.YtnajhlgdncdhbaaApp
import Derived.Laws.BytesArg
namespace Go.Proofs.Ytnajhlgdncdhbaa
open Go.RowKit

theorem str_add (a b : List Int) : strOfNums a ++ strOfNums b = strOfNums (a ++ b) := by
  unfold strOfNums
  rw [ByteArray.mk_append_mk]
  simp
theorem run_str_add {P : Program} (a b : List Int) (w : World) (h : a.length + b.length ≤ 16777216) : (Op.stringOp .add (strOfNums a) (strOfNums b)).run P w = .ok (.string (strOfNums (a ++ b))) w := by
  rw [run_string_add_sum w _ _ (by rw [strOfNums_size, strOfNums_size]; omega), str_add]
def codeB (xs : List Int) : List Int := 46 :: xs.map (48 + ·)
theorem codeB_take {xs : List Int} {k : Nat} (hk : k < xs.length) : codeB (xs.take (k + 1)) = codeB (xs.take k) ++ [48 + xs.getD k 0] := by
  show 46 :: (xs.take (k + 1)).map (48 + ·) = (46 :: (xs.take k).map (48 + ·)) ++ [48 + xs.getD k 0]
  rw [List.take_succ_eq_append_getElem hk, List.map_append]
  simp [-List.map_take, hk]
theorem goodC_mem {xs : List Int} (h : goodC xs = true) {k : Nat} (hk : k < xs.length) : 0 ≤ xs.getD k 0 ∧ xs.getD k 0 ≤ 7 := by
  have := (goodC_iff.1 h).2.2.1 (xs.getD k 0) (by simp [hk])
  exact this
def codeT (xs : List Int) : ByteArray × Bool := if goodC xs then (strOfNums (codeB xs), true) else (ByteArray.empty, false)
/-- A text and a bool, as results. -/
abbrev tv (m : ByteArray × Bool) : Value := .tuple #[.string m.1, .bool m.2]
theorem ret_tv {a : ByteArray} {c : Bool} {m : ByteArray × Bool} (h : m = (a, c)) : Ending.returned (.tuple #[.string a, .bool c]) = .returned (tv m) := by rw [h]

set_option maxHeartbeats 800000 in
theorem s_l1Num1 (n : Int) (w : World) (h0 : 0 ≤ n) (h1 : n ≤ 9) :
    Calls Try.prog 49 #[.int .i64 n] w fun e w' => e = .returned (.string (strOfNums [48 + n])) ∧ w = w' := by
  have hn : n = 0 ∨ n = 1 ∨ n = 2 ∨ n = 3 ∨ n = 4 ∨ n = 5 ∨ n = 6 ∨ n = 7 ∨ n = 8 ∨ n = 9 := by omega
  clear h0 h1
  rcases hn with rfl | rfl | rfl | rfl | rfl | rfl | rfl | rfl | rfl | rfl
  all_goals
    go_enter Try.func49, Try.ntmps49
    go_wp2_with fail
    go_ret
    exact ⟨rfl, rfl⟩

set_option maxHeartbeats 800000 in
theorem s_CodeText (A : Option Addr) (c : Nat) (xs : List Int) (w : World) (rd : RdI w A xs.length xs) (hn : xs.length ≤ 1048576) :
    Calls Try.prog 24 #[.slice A xs.length c] w fun e w' => e = .returned (tv (codeT xs)) ∧ w = w' := by
  cases hg : goodC xs
  · have fin : Hid (codeT xs = (ByteArray.empty, false)) := Lib.hid (by simp [codeT, hg])
    go_enter Try.func24, Try.ntmps24
    go_wp2_with (go_at_call 16; refine (s_GoodCode _ _ xs _ rd (by omega)).mono ?_; rintro e w' ⟨rfl, rfl⟩)
    go_ret2
    exact ⟨ret_tv fin.out, rfl⟩
  · have fin : Hid (codeT xs = (strOfNums (codeB xs), true)) := Lib.hid (by simp [codeT, hg])
    go_enter Try.func24, Try.ntmps24
    go_wp2_with (go_at_call 16; refine (s_GoodCode _ _ xs _ rd (by omega)).mono ?_; rintro e w' ⟨rfl, rfl⟩)
    go_loop [4, 5] (fun s i => ∃ k : Nat, k ≤ xs.length ∧ i = .int .i64 k ∧ s = .string (strOfNums (codeB (xs.take k)))) (fun _ i => xs.length - (intOf i).toNat)
    case atStart => exact ⟨0, Nat.zero_le _, rfl, rfl⟩
    case round =>
      obtain ⟨k, hk, rfl, rfl⟩ := hrel
      by_cases hlt : k < xs.length
      · obtain ⟨b, off, rfl, _, hc⟩ := rd.at_ hlt
        have hm := goodC_mem hg hlt
        have ht := Lib.hid (codeB_take hlt)
        generalize xs.getD k 0 = y at *
        have hadd := run_str_add (P := Try.prog) (codeB (xs.take k)) [48 + y] w (by simp [codeB]; omega)
        rw [← ht.out] at hadd
        go_wp2_with fail
        refine (s_l1Num1 _ _ hm.1 (by omega)).mono ?_
        rintro e w' ⟨rfl, rfl⟩
        go_wp2_with fail
        go_round
        case rel => exact ⟨k + 1, by omega, by go_num, rfl⟩
        case measure => simp [intOf]; omega
      · obtain rfl : k = xs.length := by omega
        go_wp2_with fail
        go_ret2
        exact ⟨ret_tv fin.out, rfl⟩
theorem hI_u8 : (Try.prog.info? 5).map (fun i => (i.zero, i.size, i.bytes)) = some (some (.int .u8 0), 1, 1) := by kernel_rfl
set_option maxHeartbeats 800000 in
theorem c_CodeText (A : Option Addr) (c : Nat) (xs : List Int) (w : World) (rd : RdI w A xs.length xs) (hn : xs.length ≤ 1048576) :
    Calls Try.prog 25 #[.slice A xs.length c] w fun e w' => e = .returned (tv (codeT xs)) ∧ Below w.heap.size w w' := by
  cases hg : goodC xs
  · have fin : Hid (codeT xs = (ByteArray.empty, false)) := Lib.hid (by simp [codeT, hg])
    go_enter Try.func25, Try.ntmps25
    go_wp2_with (go_at_call 18; refine (c_GoodCode _ _ xs _ rd).mono ?_; rintro e w' ⟨rfl, rfl⟩)
    go_ret2
    exact ⟨ret_tv fin.out, Below.refl _ _⟩
  · have fin : Hid (codeT xs = (strOfNums (codeB xs), true)) := Lib.hid (by simp [codeT, hg])
    go_enter Try.func25, Try.ntmps25
    go_wp2_with (go_at_call 18; refine (c_GoodCode _ _ xs _ rd).mono ?_; rintro e w' ⟨rfl, rfl⟩)
    go_loopw [4, 13] (fun s i wr => ∃ (k g cap : Nat), k ≤ xs.length ∧ i = .int .i64 k ∧ s = .slice (some ⟨g, 0, none⟩) (k + 1) cap ∧
      wr.ownsRow w.heap.size 5 1 (.slice (some ⟨g, 0, none⟩) (k + 1) cap) (k + 1) ((codeB (xs.take k)).map (Value.int .u8)) ∧ w.heap.size ≤ g ∧ Below w.heap.size w wr) (fun _ i _ => xs.length - (intOf i).toNat)
    case atStart => exact ⟨0, w.heap.size, 1, Nat.zero_le _, rfl, rfl, World.ownsRow_lit w #[.int .u8 46] 1 (Nat.le_refl _) (by decide) rfl, Nat.le_refl _, by go_grown⟩
    case round =>
      rename_i wr
      obtain ⟨k, g, cap, hk, rfl, rfl, hown, hgw, hb⟩ := hrel
      by_cases hlt : k < xs.length
      · obtain ⟨b, off, rfl, _, hc⟩ := (rd.below hb).at_ hlt
        have hm := goodC_mem hg hlt
        have ht := Lib.hid (codeB_take hlt)
        generalize xs.getD k 0 = y at *
        have Hb := Lib.hid hb
        clear hb rd
        obtain ⟨hm0, hm7⟩ := hm
        have hL : k + 1 + 1 ≤ 100000000 := by omega
        have hB : w.heap.size ≤ wr.heap.size := Hb.out.size
        go_wp2_with (at_builtin; refine app1 _ 70 5 (.int .u8 0) 1 Try.underlying70 hI_u8 rfl rfl (.tmp 17) (.tmp 21) rfl w.heap.size _ _ _ rfl hown (.int .u8 (48 + y)) rfl rfl hL (by omega) hB ?_; intro g' cap' w' h1 h2 h3)
        go_roundw
        case rel =>
          refine ⟨k + 1, g', cap', by omega, by go_num, rfl, ?_, ?_, Hb.out.grown h2 hB (by intro j hj; have := Option.some.inj (show some g = some j from hj); omega)⟩
          · rw [ht.out, List.map_append]; exact h1
          · rcases h3 with h3 | h3
            · have := Option.some.inj (show some g = some g' from h3); omega
            · omega
        case measure => simp [intOf]; omega
      · obtain rfl : k = xs.length := by omega
        rw [List.take_length] at hown
        have hr := RdV.of_own hown
        have hcv := run_convert_bytes_arg (P := Try.prog) wr 70 5 Try.underlying70 (by kernel_rfl) g 0 (xs.length + 1) cap (codeB xs) (by simp [codeB]) (fun i hi => by
          obtain ⟨b, off, hA, _, hc⟩ := hr.at_ hi
          injection hA with hA
          injection hA with e1 e2
          subst e1 e2
          exact hc i _ (by rw [List.getElem?_map]; simp [List.getD, show i < (codeB xs).length by simp [codeB]; omega])) 9 (by kernel_rfl)
        clear hr hown
        go_wp2_with fail
        go_ret2
        exact ⟨ret_tv fin.out, hb⟩
set_option maxHeartbeats 800000 in
theorem w_FnExactCodeText (A : Option Addr) (n c : Nat) (xs : List Int) (w : World) (rd : RdV w A n (xs.map (Value.int .i64))) (_f : Fits .i64 xs) (_m : n ≤ maxLen) :
    Calls Try.prog 7 #[.slice A n c] w fun e w' => e = .returned (.bool true) ∧ Below w.heap.size w w' := by
  have rd : RdI w A n xs := rd
  obtain rfl := rd.len
  clear _m
  by_cases hn : xs.length ≤ 1048576
  · go_enter Try.func7, Try.ntmps7
    go_wp2_with fail
    refine (c_toIntS _ _ _ xs _ rd hn).mono ?_
    rintro e w1 ⟨g1, rfl, _, r1, b1⟩
    go_wp2_with fail
    refine (s_CodeText _ _ xs _ r1 hn).mono ?_
    rintro e w2 ⟨rfl, rfl⟩
    obtain ⟨m, Hm⟩ : ∃ m, Hid (codeT xs = m) := ⟨_, Lib.hid rfl⟩
    obtain ⟨x, ok⟩ := m
    rw [Hm.out]
    have b2 := b1
    go_wp2_with fail
    refine (c_toIntS _ _ _ xs _ (rd.below b2) hn).mono ?_
    rintro e w3 ⟨g3, rfl, _, r3, b3⟩
    have b3' := Below.next b2 b3
    go_wp2_with fail
    refine (c_CodeText _ _ xs _ r3 hn).mono ?_
    rintro e w4 ⟨rfl, q4⟩
    rw [Hm.out]
    have b4 := Below.next b3' q4
    have r4 := r3.below q4
    go_wp2_with fail
    refine (c_toIntS _ _ _ xs _ (rd.below b4) hn).mono ?_
    rintro e w5 ⟨g5, rfl, _, r5, b5⟩
    have b5' := Below.next b4 b5
    have r5' := r4.below b5
    go_wp2_with fail
    refine (c_eqIntS_same _ _ _ _ _ xs _ r5' r5 hn).mono ?_
    rintro e w6 ⟨rfl, q6⟩
    have b6 := Below.next b5' q6.below
    go_wp2_with fail
    go_ret
    exact ⟨rfl, b6⟩
  · go_enter Try.func7, Try.ntmps7
    go_wp2_with fail
    go_ret
    exact ⟨rfl, Below.refl _ _⟩
end Go.Proofs.Ytnajhlgdncdhbaa
