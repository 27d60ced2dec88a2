/- Slices of texts: rows of the call's own, and the laws' own helpers on them. -/
import Derived.Test.YtppaplgeecojgaaTxA
import Derived.Test.YtppaplgeecojgaaApp
import Derived.Laws.BytesArg
import Derived.Deep.DeepCutAuto
import Derived.Deep.WholeRow
import Derived.Deep.CutBlock
import Derived.Deep.LoopGhost
import Derived.OneCell
import Derived.StillTailTactics
import Derived.IntWalk
namespace Go.Proofs.Ytppaplgeecojgaa
open Go.RowKit

/-- The slice value reads as texts. -/
def RdS (w : World) (A : Option Addr) (n : Nat) (l : List ByteArray) : Prop := RdV w A n (l.map Value.string)
section
variable {w w' : World} {A : Option Addr} {n : Nat} {l : List ByteArray}
theorem RdS.len (h : RdS w A n l) : l.length = n := by simpa using RdV.len h
theorem RdS.below (h : RdS w A n l) (hb : Below w.heap.size w w') : RdS w' A n l := RdV.below h hb
theorem RdS.q (h : RdS w A n l) (hq : Q w w') : RdS w' A n l := RdV.q h hq
theorem RdS.at_ (h : RdS w A n l) {k : Nat} (hk : k < n) : ∃ b off, A = some ⟨b, off, none⟩ ∧ b < w.heap.size ∧ w.cell? ⟨b, off + k, none⟩ = some (.string (l.getD k ByteArray.empty)) := by
  obtain ⟨b, off, hA, hb, hc⟩ := RdV.at_ h hk
  refine ⟨b, off, hA, hb, ?_⟩
  have hl : k < l.length := by rw [h.len]; exact hk
  exact hc k (.string (l.getD k ByteArray.empty)) (by simp [hl])
end
theorem RdS.of_open {w : World} {x : Addr} {len cap : Nat} {zs : List ByteArray} (hz : zs.length = cap) (hl : len ≤ cap)
    (hc : ∀ i, i < zs.length → w.cell? (x.add i) = some (.string (zs.getD i ByteArray.empty))) : RdV w (some x) len ((zs.take len).map Value.string) := by
  refine ⟨by simp [hz, hl], fun hn => ?_⟩
  have h0 := hc 0 (by omega)
  obtain ⟨b, off, spot⟩ := x
  have hspot : spot = none := by simpa [Addr.add] using World.cell?_spot h0
  subst hspot
  refine ⟨b, off, rfl, fun i u hu => ?_⟩
  simp only [List.getElem?_map, Option.map_eq_some_iff] at hu
  obtain ⟨z, hzi, rfl⟩ := hu
  obtain ⟨hi, hzz⟩ := List.getElem?_eq_some_iff.1 hzi
  have hi2 : i < zs.length := by simp at hi; omega
  have h1 := hc i hi2
  have h2 : zs.getD i ByteArray.empty = z := by rw [← hzz]; simp [hi2]
  rw [h2] at h1
  simp only [Addr.add] at h1
  by_cases h : i = 0
  · subst h; simpa using h1
  · simpa [h] using h1
/-- A slice of the call's own, with these texts. -/
abbrev OwnS (w : World) (base : Nat) (A : Option Addr) (c : Nat) (l : List ByteArray) : Prop := w.ownsRow base 9 1 (.slice A l.length c) l.length (l.map Value.string)
theorem OwnS.rd {w : World} {base : Nat} {A : Option Addr} {c : Nat} {l : List ByteArray} (h : OwnS w base A c l) : RdS w A l.length l := RdV.of_own h
theorem hI_str : (Try.prog.info? 9).map (fun i => (i.zero, i.size, i.bytes)) = some (some (.string ⟨#[]⟩), 1, 16) := by kernel_rfl
theorem grownBy_refl (w : World) (row : Option Nat) : w.grownBy w row := ⟨rfl, rfl, rfl, Nat.le_refl _, fun _ _ _ => rfl⟩
theorem grown_below {w w' : World} (row : Option Nat) (hb : Below w.heap.size w w') : w.grownBy w' row := ⟨hb.os, hb.tape, hb.output, hb.size, fun k hk _ => hb.block k hk⟩
theorem results_tmp2 {fn : Func} {t u : Tmp} (h : fn.results = #[.tmp t, .tmp u]) (tmps : Array Value) (P : Program) (w : World) : (results fn tmps).run P w = .ok (.tuple #[tmps.getD t undef, tmps.getD u undef]) w := by
  simp [results, h]
theorem RdS.grown {w w' : World} {base : Nat} {A : Option Addr} {n : Nat} {xs : List ByteArray} {v : Value} {m : Nat} {us : List Value} (h : RdS w A n xs) (ho : w.ownsRow base 9 1 v m us) (hA : n = 0 ∨ ∀ b o, A = some ⟨b, o, none⟩ → b < base)
    (hg : w.grownBy w' v.ownBlock) : RdS w' A n xs := by
  refine ⟨h.1, fun hn => ?_⟩
  obtain ⟨b, off, e, hb, hc⟩ := RdV.at_ h hn
  subst e
  refine ⟨b, off, rfl, fun i u hu => ?_⟩
  rw [World.cell?_of_block (hg.block b hb (fun e => by
    have h1 := (ho.lt b e.symm).1
    rcases hA with h0 | h0
    · omega
    · have := h0 b off rfl; omega))]
  exact hc i u hu
theorem OwnS.old {w : World} {base base' : Nat} {A : Option Addr} {c : Nat} {xs : List ByteArray} (h : OwnS w base A c xs) (hb : w.heap.size ≤ base') : xs.length = 0 ∨ ∀ b o, A = some ⟨b, o, none⟩ → b < base' := by
  right
  rintro b o rfl
  exact Nat.lt_of_lt_of_le (h.lt b rfl).2 hb

theorem str_add (a b : List Int) : strOfNums a ++ strOfNums b = strOfNums (a ++ b) := by
  unfold strOfNums
  rw [ByteArray.mk_append_mk]
  simp
theorem run_str_add {P : Program} (a b : List Int) (w : World) (h : a.length + b.length ≤ 16777216) : (Op.stringOp .add (strOfNums a) (strOfNums b)).run P w = .ok (.string (strOfNums (a ++ b))) w := by
  rw [run_string_add_sum w _ _ (by rw [strOfNums_size, strOfNums_size]; omega), str_add]
/-- The digits of a number ahead of some bytes. -/
def mtD (n : Nat) (acc : List Int) : List Int := if n = 0 then acc else mtD (n / 10) ((48 + ((n % 10 : Nat) : Int)) :: acc)
termination_by n
decreasing_by omega
theorem mtD_zero (acc : List Int) : mtD 0 acc = acc := by unfold mtD; rfl
theorem mtD_pos {n : Nat} (h : n ≠ 0) (acc : List Int) : mtD n acc = mtD (n / 10) ((48 + ((n % 10 : Nat) : Int)) :: acc) := by
  conv => lhs; unfold mtD
  rw [if_neg h]
theorem mtD_len : ∀ (f n : Nat) (acc : List Int), n < 10 ^ f → (mtD n acc).length ≤ acc.length + f
  | 0, n, acc, h => by obtain rfl : n = 0 := by omega
                       rw [mtD_zero]; omega
  | f + 1, n, acc, h => by
    by_cases h0 : n = 0
    · subst h0; rw [mtD_zero]; omega
    · rw [mtD_pos h0]
      have := mtD_len f (n / 10) ((48 + ((n % 10 : Nat) : Int)) :: acc) (by rw [Nat.pow_succ] at h; omega)
      simp at this ⊢
      omega
def mt (n : Nat) : ByteArray := strOfNums (109 :: mtD n [])
set_option maxHeartbeats 800000 in
theorem c_markText (n : Nat) (w : World) (h0 : 1 ≤ n) (h1 : n ≤ 1000000000) :
    Calls Try.prog 27 #[.int .i64 n] w fun e w' => e = .returned (.string (mt n)) ∧ Below w.heap.size w w' := by
  have hlen := mtD_len 10 n [] (by omega)
  simp at hlen
  obtain ⟨R, HR⟩ : ∃ R, Hid (mtD n [] = R) := ⟨_, Lib.hid rfl⟩
  have fin : Hid (mt n = strOfNums (109 :: R)) := Lib.hid (by rw [mt, HR.out])
  rw [fin.out]
  rw [HR.out] at hlen
  have hfin := fun (w : World) => run_str_add (P := Try.prog) [109] R w (by simp; omega)
  go_enter Try.func27, Try.ntmps27
  go_wp2_with fail
  go_loopg [0, 3] (n + 1) (fun m i s wr => ∃ (k f : Nat) (acc : List Int), m = k + 1 ∧ k ≤ 1000000000 ∧ i = .int .i64 k ∧ s = .string (strOfNums acc) ∧ acc.length + f = 10 ∧ k < 10 ^ f ∧ Hid (mtD k acc = R) ∧ Below w.heap.size w wr)
  case atStart => exact ⟨n, 10, [], rfl, h1, rfl, rfl, by simp, by omega, HR, Below.refl _ _⟩
  case round =>
    obtain ⟨k, f, acc, rfl, hk, rfl, rfl, hf, hkf, hrem, hb⟩ := hrel
    by_cases hz : k = 0
    · subst hz
      have hR : Hid (acc = R) := Lib.hid (by rw [← hrem.out, mtD_zero])
      rw [hR.out]
      have hadd : (Op.stringOp .add ⟨#[109]⟩ (strOfNums R)).run Try.prog wr = .ok (.string (strOfNums (109 :: R))) wr := hfin wr
      clear hfin hf
      go_wp2_with fail
      go_ret
      exact ⟨rfl, hb⟩
    · have hrem' : Hid (mtD (k / 10) ((48 + ((k % 10 : Nat) : Int)) :: acc) = R) := Lib.hid (by rw [← mtD_pos hz]; exact hrem.out)
      have hf1 : 1 ≤ f := by
        rcases Nat.eq_zero_or_pos f with h | h
        · subst h; omega
        · exact h
      have Hkf : Hid (k / 10 < 10 ^ (f - 1)) := Lib.hid (by
        obtain ⟨f', rfl⟩ : ∃ f', f = f' + 1 := ⟨f - 1, by omega⟩
        rw [Nat.pow_succ] at hkf
        rw [Nat.add_sub_cancel]; omega)
      have Hf := Lib.hid hf
      have hal : acc.length ≤ 10 := by omega
      have hpos : (0 : Int) < (k : Int) := by omega
      obtain ⟨y, hy⟩ : ∃ y : Nat, k % 10 = y := ⟨_, rfl⟩
      have hy9 : y < 10 := by omega
      have hym : (k : Int) % 10 = (y : Int) := by omega
      obtain ⟨k', hk'⟩ : ∃ k' : Nat, k / 10 = k' := ⟨_, rfl⟩
      have hkd : (k : Int) / 10 = (k' : Int) := by omega
      have hk'k : k' < k := by omega
      rw [hy, hk'] at hrem'
      rw [hk'] at Hkf
      have hadd := run_str_add (P := Try.prog) [48 + (y : Int)] acc (wr.alloc (.cells #[.int .u8 (48 + (y : Int))] 5)) (by simp; omega)
      have hcv := run_convert_bytes_arg (P := Try.prog) (wr.alloc (.cells #[.int .u8 (48 + (y : Int))] 5)) 35 5 Try.underlying35 (by kernel_rfl) wr.heap.size 0 1 1 [48 + (y : Int)] rfl (fun i hi => by
        obtain rfl : i = 0 := by omega
        exact cell_one_new wr (.int .u8 (48 + (y : Int))) 5 0 _ rfl) 9 (by kernel_rfl)
      have Hb := Lib.hid hb
      clear hy hk' hz hkf hf hb hfin hlen
      go_wp2_with fail
      go_roundg (k' + 1)
      case measure => omega
      case rel => exact ⟨k', f - 1, (48 + (y : Int)) :: acc, rfl, by omega, rfl, rfl, by have := Hf.out; simp; omega, Hkf.out, hrem', Hb.out.alloc Hb.out.size _⟩
end Go.Proofs.Ytppaplgeecojgaa
