/- Splitting a text at a byte, by the program and by the reference; the walk of the law on SplitText. -/
import Derived.Test.YtcogdogiceokdaaDoorTxC
namespace Go.Proofs.YtcogdogiceokdaaDoor
open Go.RowKit

/-- The parts that are complete behind k bytes, and where the next one begins. -/
def partsTo (s : ByteArray) (b : UInt8) : Nat → List ByteArray × Nat
  | 0 => ([], 0)
  | k + 1 => if s.data.toList.getD k 0 = b then ((partsTo s b k).1 ++ [s.extract (partsTo s b k).2 k], k + 1) else partsTo s b k
theorem getB {s : ByteArray} {k : Nat} (h : k < s.size) : s.data.toList.getD k 0 = s[k] := by
  have : k < s.data.size := h
  rw [List.getD_eq_getElem?_getD, Array.getElem?_toList, Array.getElem?_eq_getElem this]
  rfl
theorem parts_yes {s : ByteArray} {b : UInt8} {k : Nat} (hk : k < s.size) (h : s[k] = b) {ps : List ByteArray} {f : Nat} (hp : partsTo s b k = (ps, f)) : partsTo s b (k + 1) = (ps ++ [s.extract f k], k + 1) := by
  rw [partsTo, getB hk, if_pos h, hp]
theorem parts_no {s : ByteArray} {b : UInt8} {k : Nat} (hk : k < s.size) (h : ¬ s[k] = b) : partsTo s b (k + 1) = partsTo s b k := by
  rw [partsTo, getB hk, if_neg h]
def splitL (s : ByteArray) (b : UInt8) : List ByteArray := (partsTo s b s.size).1 ++ [s.extract (partsTo s b s.size).2 s.size]
theorem splitL_eq {s : ByteArray} {b : UInt8} {ps : List ByteArray} {f : Nat} (hp : partsTo s b s.size = (ps, f)) : splitL s b = ps ++ [s.extract f s.size] := by rw [splitL, hp]
/-- A new slice of texts. -/
def StrsP (w : World) (l : List ByteArray) (e : Ending) (w' : World) : Prop :=
  ∃ A c, e = .returned (.slice A l.length c) ∧ OwnS w' w.heap.size A c l ∧ Below w.heap.size w w'
def StrsB (w : World) (m : List ByteArray × Bool) (e : Ending) (w' : World) : Prop :=
  ∃ A c, e = .returned (.tuple #[.slice A m.1.length c, .bool m.2]) ∧ OwnS w' w.heap.size A c m.1 ∧ Below w.heap.size w w'
def splitT (s sign : ByteArray) : List ByteArray × Bool := if s.size ≤ 4000 ∧ sign.size = 1 then (splitL s (sign.data.toList.getD 0 0), true) else ([], false)
theorem splitT_no {s sign : ByteArray} (h : ¬ (s.size ≤ 4000 ∧ sign.size = 1)) : splitT s sign = ([], false) := if_neg h
theorem splitT_yes {s sign : ByteArray} (h : s.size ≤ 4000) (h1 : sign.size = 1) (h0 : 0 < sign.size) : splitT s sign = (splitL s sign[0], true) := by rw [splitT, if_pos ⟨h, h1⟩, getB h0]
theorem own_litS (w : World) (base : Nat) (hb : base ≤ w.heap.size) : OwnS (w.alloc (.cells #[] 9)) base (some ⟨w.heap.size, 0, none⟩) 0 [] := own_lit0 w _ _ hb

set_option maxHeartbeats 1600000 in
theorem s_l1Split (s : ByteArray) (b : UInt8) (w : World) (hs : s.size ≤ 1048576) :
    Calls Tryd.prog 23 #[.string s, .int .u8 (b.toNat : Int)] w (StrsP w (splitL s b)) := by
  go_enter Tryd.func23, Tryd.ntmps23
  go_wp2_with fail
  go_loopg [5, 6, 7] s.size (fun m o f i wr => ∃ (k g cap n fr : Nat) (ps : List ByteArray), k ≤ s.size ∧ m = s.size - k ∧ i = .int .i64 k ∧ f = .int .i64 fr ∧ fr ≤ k ∧ o = .slice (some ⟨g, 0, none⟩) n cap ∧ n ≤ k ∧ n = ps.length ∧
      wr.ownsRow w.heap.size 9 1 (.slice (some ⟨g, 0, none⟩) n cap) n (ps.map Value.string) ∧ w.heap.size ≤ g ∧ Below w.heap.size w wr ∧ Hid (partsTo s b k = (ps, fr)))
  case atStart => exact ⟨0, w.heap.size, 0, 0, 0, [], Nat.zero_le _, rfl, rfl, rfl, by omega, rfl, by omega, rfl, own_litS w _ (Nat.le_refl _), Nat.le_refl _, by go_grown, Lib.hid rfl⟩
  case round =>
    obtain ⟨k, g, cap, n, fr, ps, hk, rfl, rfl, rfl, hfk, rfl, hnk, hnl, hown, hgw, hb, hp⟩ := hrel
    have Hnl := Lib.hid hnl
    clear hnl
    have hB : w.heap.size ≤ wr.heap.size := hb.size
    by_cases hlt : k < s.size
    · by_cases hc : s[k] = b
      · have hp' := Lib.hid (parts_yes hlt hc hp.out)
        have Hb := Lib.hid hb
        clear hb
        have hc2 : (((s[k]).toNat : Int) == (b.toNat : Int)) = true := by rw [hc]; simp
        go_wp2_with (at_builtin; refine app1 _ 45 9 (.string ⟨#[]⟩) 16 Tryd.underlying45 hI_str rfl rfl (.tmp 20) (.tmp 25) rfl w.heap.size _ _ _ rfl hown (.string (s.extract fr k)) rfl rfl (by omega) (by omega) hB ?_; intro g' cap' w' h1 h2 h3)
        go_roundg (s.size - (k + 1))
        case measure => omega
        case rel =>
          refine ⟨k + 1, g', cap', n + 1, k + 1, ps ++ [s.extract fr k], by omega, rfl, by go_num, by go_num, by omega, rfl, by omega, by simp [Hnl.out], ?_, ?_, Hb.out.grown h2 hB (by intro q hq; have := Option.some.inj (show some g = some q from hq); omega), hp'⟩
          · rw [List.map_append]; exact h1
          · rcases h3 with h3 | h3
            · have := Option.some.inj (show some g = some g' from h3); omega
            · omega
      · have hp' := Lib.hid ((parts_no hlt hc).trans hp.out)
        have hc2 : (((s[k]).toNat : Int) == (b.toNat : Int)) = false := by
          rw [beq_eq_false_iff_ne]
          intro e
          exact hc (UInt8.toNat_inj.1 (by omega))
        have Hc := Lib.hid hc
        clear hc
        go_wp2_with fail
        go_roundg (s.size - (k + 1))
        case measure => omega
        case rel => exact ⟨k + 1, g, cap, n, fr, ps, by omega, rfl, by go_num, rfl, by omega, rfl, by omega, Hnl.out, hown, hgw, hb, hp'⟩
    · obtain rfl : k = s.size := by omega
      have fin := Lib.hid (splitL_eq hp.out)
      have Hb := Lib.hid hb
      clear hb
      go_wp2_with (at_builtin; refine app1 _ 45 9 (.string ⟨#[]⟩) 16 Tryd.underlying45 hI_str rfl rfl (.tmp 29) (.tmp 33) rfl w.heap.size _ _ _ rfl hown (.string (s.extract fr s.size)) rfl rfl (by omega) (by omega) hB ?_; intro g' cap' w' h1 h2 h3)
      go_ret
      refine ⟨some ⟨g', 0, none⟩, cap', by rw [fin.out, List.length_append, ← Hnl.out]; rfl, ?_, Hb.out.grown h2 hB (by intro q hq; have := Option.some.inj (show some g = some q from hq); omega)⟩
      rw [fin.out, OwnS, List.length_append, ← Hnl.out, List.map_append]
      exact h1
theorem partsTo_len (s : ByteArray) (b : UInt8) : ∀ k, (partsTo s b k).1.length ≤ k
  | 0 => Nat.le_refl _
  | k + 1 => by
    have := partsTo_len s b k
    rw [partsTo]
    split
    · simp; omega
    · omega
theorem splitT_len (s sign : ByteArray) : (splitT s sign).1.length ≤ 4001 := by
  unfold splitT
  split
  · rename_i h
    have := partsTo_len s (sign.data.toList.getD 0 0) s.size
    rw [splitL, List.length_append]
    simp only [List.length_singleton]
    omega
  · simp
end Go.Proofs.YtcogdogiceokdaaDoor
