/- The library's Split and Cut at one byte. -/
import Derived.Test.YtcogdogiceokdaaDoorRpQ
import Derived.Test.YtcogdogiceokdaaDoorShelf
namespace Go.Proofs.YtcogdogiceokdaaDoor
open Go.RowKit

theorem indexB_one (x : ByteArray) (b : UInt8) : Lib.indexB x ⟨#[b]⟩ = Lib.indexByte x.data.toList b := Lib.index_one _ _
theorem own_all (w : World) (l : List ByteArray) (hl : l.length ≤ maxLen) : OwnS (w.alloc (.cells (l.map Value.string).toArray 9)) w.heap.size (some ⟨w.heap.size, 0, none⟩) l.length l := by
  have := World.ownsRow_lit (base := w.heap.size) (e := 9) (size := 1) w (l.map Value.string).toArray l.length (Nat.le_refl _) hl (by simp)
  simpa using this
theorem isE (s : ByteArray) : s.toList.isEmpty = decide (s.size = 0) := by
  rw [Lib.toList_data, Lib.size_eq]
  cases s.data.toList <;> simp
theorem splitL_mem {s : ByteArray} {b : UInt8} {x : ByteArray} (h : x ∈ splitL s b) : x.size ≤ s.size := by
  have h1 := splitL_sizes s b
  have h2 : x.size + 1 ≤ ((splitL s b).map fun p => p.size + 1).sum := by
    generalize splitL s b = l at *
    clear h1
    induction l with
    | nil => simp at h
    | cons a l ih =>
      rw [List.map_cons, List.sum_cons]
      rcases List.mem_cons.1 h with rfl | h
      · omega
      · have := ih h; omega
  omega
theorem keep_words {w w' : World} {b0 : Nat} {A : Option Addr} {c : Nat} {l : List ByteArray} {g g' : Nat} (h : OwnS w b0 A c l) (hne : (Value.slice A l.length c).ownBlock ≠ some g) (h2 : w.grownBy w' (some g)) (h3 : some g = some g' ∨ w.heap.size ≤ g') :
    OwnS w' b0 A c l ∧ (Value.slice A l.length c).ownBlock ≠ some g' := by
  refine ⟨own_kept h h2 (.inr hne), fun e => ?_⟩
  rcases h3 with h3 | h3
  · exact hne (e.trans h3.symm)
  · have := (h.lt g' e).2
    omega
theorem c_genSplit (s : ByteArray) (b : UInt8) (w : World) (hs : s.size ≤ 1048576) :
    Calls Tryd.prog 41 #[.string s, .string ⟨#[b]⟩, .int .i64 0, .int .i64 (-1)] w fun e w' => e = .returned (.slice (some ⟨w.heap.size, 0, none⟩) (splitL s b).length (splitL s b).length) ∧ w' = w.alloc (.cells ((splitL s b).map Value.string).toArray 9) := by
  have hle := Lib.countB_le ⟨#[b]⟩ (Nat.le_refl 1) s.size s (Nat.le_refl _)
  have hlen := Lib.splitB_all ⟨#[b]⟩ (Nat.le_refl 1) 0 _ s rfl
  have c := Any.strings_genSplit_core Tryd.lays221 (by kernel_rfl) s ⟨#[b]⟩ 0 (-1) (Lib.countB s ⟨#[b]⟩ + 1) w (by omega) (Nat.le_refl 1) (Nat.zero_le _)
    (fun x c hx => (Tryd.strings_Index_one x b _).mono fun e w' ⟨he, hw⟩ => ⟨by rw [he, indexB_one], hw⟩)
    ((Tryd.strings_Count_one s b w).mono fun e w' ⟨he, hw⟩ => ⟨by
      rw [he]
      show _ = Ending.returned (Value.int .i64 ((Lib.count s.data.toList [b] : Nat) : Int))
      rw [Lib.count_one]
      rfl, hw⟩) (by decide) (by decide) (by rw [if_pos (by decide)]; omega)
  rw [Nat.add_sub_cancel, hlen] at c
  have e2 : Lib.cellsOf (Lib.splitB ⟨#[b]⟩ 0 (Lib.countB s ⟨#[b]⟩) s) (Lib.countB s ⟨#[b]⟩ + 1) = ((Lib.splitB ⟨#[b]⟩ 0 (Lib.countB s ⟨#[b]⟩) s).map Value.string).toArray := by rw [← hlen]; exact Lib.cellsOf_full _
  rw [e2, ← hlen, splitB_splitL] at c
  exact c
set_option maxHeartbeats 400000 in
theorem c_Split (s : ByteArray) (b : UInt8) (w : World) (hs : s.size ≤ 1048576) :
    Calls Tryd.prog 26 #[.string s, .string ⟨#[b]⟩] w fun e w' => e = .returned (.slice (some ⟨w.heap.size, 0, none⟩) (splitL s b).length (splitL s b).length) ∧ OwnS w' w.heap.size (some ⟨w.heap.size, 0, none⟩) (splitL s b).length (splitL s b) ∧ Below w.heap.size w w' := by
  have H := Lib.hid (c_genSplit s b w hs)
  have hl := splitL_count s b
  generalize splitL s b = l at *
  go_enter Tryd.func26, Tryd.ntmps26
  go_wp2_with (go_at_call 41; refine H.out.mono ?_; rintro e w' ⟨rfl, rfl⟩)
  go_ret
  exact ⟨rfl, own_all w l (by unfold maxLen; omega), (Below.refl _ _).alloc (Nat.le_refl _) _⟩
set_option maxHeartbeats 800000 in
theorem b_cut_no (s : ByteArray) (w : World) (hi : Lib.indexByte s.data.toList 32 = -1) :
    Calls Tryd.prog 56 #[.string s, .string ⟨#[32]⟩] w fun e w' => e = .returned (.tuple #[.string s, .string ⟨#[]⟩, .bool false]) ∧ w' = w := by
  go_enter Tryd.func56, Tryd.ntmps56
  go_wp2_with (go_at_call 68; refine (Tryd.stringslite_Index_one _ _ _).mono ?_; rintro e w' ⟨rfl, rfl⟩; rw [hi])
  go_ret3
  exact ⟨rfl, rfl⟩
set_option maxHeartbeats 800000 in
theorem b_cut_hit (s : ByteArray) (i : Nat) (w : World) (hi : Lib.indexByte s.data.toList 32 = (i : Int)) (hlt : i < s.size) (hs : s.size ≤ 1048576) :
    Calls Tryd.prog 56 #[.string s, .string ⟨#[32]⟩] w fun e w' => e = .returned (.tuple #[.string (s.extract 0 i), .string (s.extract (i + 1) s.size), .bool true]) ∧ ∃ n, w' = w.drewN n := by
  have c1 : (0 : Int) ≤ ↑i := by omega
  have c2 : (↑i : Int) ≤ ↑s.size := by omega
  have c3 : (0 : Int) ≤ ↑i + 1 := by omega
  have c4 : (↑i + 1 : Int) ≤ ↑s.size := by omega
  go_enter Tryd.func56, Tryd.ntmps56
  go_wp2_with (go_at_call 68; refine (Tryd.stringslite_Index_one _ _ _).mono ?_; rintro e w' ⟨rfl, rfl⟩; rw [hi])
  go_quiet (fail)
  go_wp2
  go_ret3
  exact ⟨rfl, _, rfl⟩
theorem B_cut_no (s : ByteArray) (w : World) (hi : Lib.indexByte s.data.toList 32 = -1) :
    Calls Tryd.prog 42 #[.string s, .string ⟨#[32]⟩] w fun e w' => e = .returned (.tuple #[.string s, .string ⟨#[]⟩, .bool false]) ∧ Q w w' := by
  have H := Lib.hid (fun w => b_cut_no s w hi)
  go_enter Tryd.func42, Tryd.ntmps42
  go_wp2_with (go_at_call 56; refine (H.out _).mono ?_; rintro e w' ⟨rfl, rfl⟩)
  go_ret3
  exact ⟨rfl, Q.refl _⟩
theorem B_cut_hit (s : ByteArray) (i : Nat) (w : World) (hi : Lib.indexByte s.data.toList 32 = (i : Int)) (hlt : i < s.size) (hs : s.size ≤ 1048576) :
    Calls Tryd.prog 42 #[.string s, .string ⟨#[32]⟩] w fun e w' => e = .returned (.tuple #[.string (s.extract 0 i), .string (s.extract (i + 1) s.size), .bool true]) ∧ Q w w' := by
  have H := Lib.hid (fun w => b_cut_hit s i w hi hlt hs)
  go_enter Tryd.func42, Tryd.ntmps42
  go_wp2_with (go_at_call 56; refine (H.out _).mono ?_; rintro e w' ⟨rfl, q⟩)
  go_ret3
  exact ⟨rfl, q⟩
end Go.Proofs.YtcogdogiceokdaaDoor
