/- Codes and their texts: contracts of CodeText and ReadCode, the walks of their laws. -/
import Derived.Test.YtoeacocijcammaaHpA
import Derived.Test.YtoeacocijcammaaApp
import Derived.Laws.BytesArg
namespace Go.Proofs.Ytoeacocijcammaa
open Go.RowKit

theorem str_add (a b : List Int) : strOfNums a ++ strOfNums b = strOfNums (a ++ b) := by
  unfold strOfNums
  rw [ByteArray.mk_append_mk]
  simp
theorem run_str_add {P : Program} (a b : List Int) (w : World) (h : a.length + b.length ≤ 16777216) : (Op.stringOp .add (strOfNums a) (strOfNums b)).run P w = .ok (.string (strOfNums (a ++ b))) w := by
  rw [run_string_add_sum w _ _ (by rw [strOfNums_size, strOfNums_size]; omega), str_add]
def codeB (xs : List Int) : List Int := 46 :: xs.map (48 + ·)
theorem codeB_take {xs : List Int} {k : Nat} (hk : k < xs.length) : codeB (xs.take (k + 1)) = codeB (xs.take k) ++ [48 + xs.getD k 0] := by
  show 46 :: (xs.take (k + 1)).map (48 + ·) = (46 :: (xs.take k).map (48 + ·)) ++ [48 + xs.getD k 0]
  rw [List.take_succ_eq_append_getElem hk, List.map_append]
  simp [-List.map_take, hk]
theorem goodC_mem {xs : List Int} (h : goodC xs = true) {k : Nat} (hk : k < xs.length) : 0 ≤ xs.getD k 0 ∧ xs.getD k 0 ≤ 7 := by
  have := (goodC_iff.1 h).2.2.1 (xs.getD k 0) (by simp [hk])
  exact this
def codeT (xs : List Int) : ByteArray × Bool := if goodC xs then (strOfNums (codeB xs), true) else (ByteArray.empty, false)
/-- A text and a bool, as results. -/
abbrev tv (m : ByteArray × Bool) : Value := .tuple #[.string m.1, .bool m.2]
theorem ret_tv {a : ByteArray} {c : Bool} {m : ByteArray × Bool} (h : m = (a, c)) : Ending.returned (.tuple #[.string a, .bool c]) = .returned (tv m) := by rw [h]


theorem hI_u8 : (Try.prog.info? 5).map (fun i => (i.zero, i.size, i.bytes)) = some (some (.int .u8 0), 1, 1) := by kernel_rfl
set_option maxHeartbeats 800000 in
theorem c_CodeText (A : Option Addr) (c : Nat) (xs : List Int) (w : World) (rd : RdI w A xs.length xs) (hn : xs.length ≤ 1048576) :
    Calls Try.prog 20 #[.slice A xs.length c] w fun e w' => e = .returned (tv (codeT xs)) ∧ Below w.heap.size w w' := by
  cases hg : goodC xs
  · have fin : Hid (codeT xs = (ByteArray.empty, false)) := Lib.hid (by simp [codeT, hg])
    go_enter Try.func20, Try.ntmps20
    go_wp2_with (go_at_call 23; refine (c_GoodCode _ _ xs _ rd).mono ?_; rintro e w' ⟨rfl, rfl⟩)
    go_ret2
    exact ⟨ret_tv fin.out, Below.refl _ _⟩
  · have fin : Hid (codeT xs = (strOfNums (codeB xs), true)) := Lib.hid (by simp [codeT, hg])
    go_enter Try.func20, Try.ntmps20
    go_wp2_with (go_at_call 23; refine (c_GoodCode _ _ xs _ rd).mono ?_; rintro e w' ⟨rfl, rfl⟩)
    go_loopw [4, 13] (fun s i wr => ∃ (k g cap : Nat), k ≤ xs.length ∧ i = .int .i64 k ∧ s = .slice (some ⟨g, 0, none⟩) (k + 1) cap ∧
      wr.ownsRow w.heap.size 5 1 (.slice (some ⟨g, 0, none⟩) (k + 1) cap) (k + 1) ((codeB (xs.take k)).map (Value.int .u8)) ∧ w.heap.size ≤ g ∧ Below w.heap.size w wr) (fun _ i _ => xs.length - (intOf i).toNat)
    case atStart => exact ⟨0, w.heap.size, 1, Nat.zero_le _, rfl, rfl, World.ownsRow_lit w #[.int .u8 46] 1 (Nat.le_refl _) (by decide) rfl, Nat.le_refl _, by go_grown⟩
    case round =>
      rename_i wr
      obtain ⟨k, g, cap, hk, rfl, rfl, hown, hgw, hb⟩ := hrel
      by_cases hlt : k < xs.length
      · obtain ⟨b, off, rfl, _, hc⟩ := (rd.below hb).at_ hlt
        have hm := goodC_mem hg hlt
        have ht := Lib.hid (codeB_take hlt)
        generalize xs.getD k 0 = y at *
        have Hb := Lib.hid hb
        clear hb rd
        obtain ⟨hm0, hm7⟩ := hm
        have hL : k + 1 + 1 ≤ 100000000 := by omega
        have hB : w.heap.size ≤ wr.heap.size := Hb.out.size
        go_wp2_with (at_builtin; refine app1 _ 32 5 (.int .u8 0) 1 Try.underlying32 hI_u8 rfl rfl (.tmp 17) (.tmp 21) rfl w.heap.size _ _ _ rfl hown (.int .u8 (48 + y)) rfl rfl hL (by omega) hB ?_; intro g' cap' w' h1 h2 h3)
        go_roundw
        case rel =>
          refine ⟨k + 1, g', cap', by omega, by go_num, rfl, ?_, ?_, Hb.out.grown h2 hB (by intro j hj; have := Option.some.inj (show some g = some j from hj); omega)⟩
          · rw [ht.out, List.map_append]; exact h1
          · rcases h3 with h3 | h3
            · have := Option.some.inj (show some g = some g' from h3); omega
            · omega
        case measure => simp [intOf]; omega
      · obtain rfl : k = xs.length := by omega
        rw [List.take_length] at hown
        have hr := RdV.of_own hown
        have hcv := run_convert_bytes_arg (P := Try.prog) wr 32 5 Try.underlying32 (by kernel_rfl) g 0 (xs.length + 1) cap (codeB xs) (by simp [codeB]) (fun i hi => by
          obtain ⟨b, off, hA, _, hc⟩ := hr.at_ hi
          injection hA with hA
          injection hA with e1 e2
          subst e1 e2
          exact hc i _ (by rw [List.getElem?_map]; simp [List.getD, show i < (codeB xs).length by simp [codeB]; omega])) 9 (by kernel_rfl)
        clear hr hown
        go_wp2_with fail
        go_ret2
        exact ⟨ret_tv fin.out, hb⟩
end Go.Proofs.Ytoeacocijcammaa
