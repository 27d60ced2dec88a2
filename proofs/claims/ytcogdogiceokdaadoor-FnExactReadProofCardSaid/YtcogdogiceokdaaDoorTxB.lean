/- Slices of texts: rows of the call's own, and the laws' own helpers on them. -/
import Derived.Test.YtcogdogiceokdaaDoorTxA
import Derived.Test.YtcogdogiceokdaaDoorApp
import Derived.Laws.BytesArg
import Derived.Deep.DeepCutAuto
import Derived.Deep.WholeRow
import Derived.Deep.CutBlock
import Derived.Deep.LoopGhost
import Derived.OneCell
import Derived.StillTailTactics
import Derived.IntWalk
namespace Go.Proofs.YtcogdogiceokdaaDoor
open Go.RowKit

/-- The slice value reads as texts. -/
def RdS (w : World) (A : Option Addr) (n : Nat) (l : List ByteArray) : Prop := RdV w A n (l.map Value.string)
section
variable {w w' : World} {A : Option Addr} {n : Nat} {l : List ByteArray}
theorem RdS.len (h : RdS w A n l) : l.length = n := by simpa using RdV.len h
theorem RdS.below (h : RdS w A n l) (hb : Below w.heap.size w w') : RdS w' A n l := RdV.below h hb
theorem RdS.q (h : RdS w A n l) (hq : Q w w') : RdS w' A n l := RdV.q h hq
theorem RdS.at_ (h : RdS w A n l) {k : Nat} (hk : k < n) : ∃ b off, A = some ⟨b, off, none⟩ ∧ b < w.heap.size ∧ w.cell? ⟨b, off + k, none⟩ = some (.string (l.getD k ByteArray.empty)) := by
  obtain ⟨b, off, hA, hb, hc⟩ := RdV.at_ h hk
  refine ⟨b, off, hA, hb, ?_⟩
  have hl : k < l.length := by rw [h.len]; exact hk
  exact hc k (.string (l.getD k ByteArray.empty)) (by simp [hl])
end
theorem RdS.of_open {w : World} {x : Addr} {len cap : Nat} {zs : List ByteArray} (hz : zs.length = cap) (hl : len ≤ cap)
    (hc : ∀ i, i < zs.length → w.cell? (x.add i) = some (.string (zs.getD i ByteArray.empty))) : RdV w (some x) len ((zs.take len).map Value.string) := by
  refine ⟨by simp [hz, hl], fun hn => ?_⟩
  have h0 := hc 0 (by omega)
  obtain ⟨b, off, spot⟩ := x
  have hspot : spot = none := by simpa [Addr.add] using World.cell?_spot h0
  subst hspot
  refine ⟨b, off, rfl, fun i u hu => ?_⟩
  simp only [List.getElem?_map, Option.map_eq_some_iff] at hu
  obtain ⟨z, hzi, rfl⟩ := hu
  obtain ⟨hi, hzz⟩ := List.getElem?_eq_some_iff.1 hzi
  have hi2 : i < zs.length := by simp at hi; omega
  have h1 := hc i hi2
  have h2 : zs.getD i ByteArray.empty = z := by rw [← hzz]; simp [hi2]
  rw [h2] at h1
  simp only [Addr.add] at h1
  by_cases h : i = 0
  · subst h; simpa using h1
  · simpa [h] using h1
/-- A slice of the call's own, with these texts. -/
abbrev OwnS (w : World) (base : Nat) (A : Option Addr) (c : Nat) (l : List ByteArray) : Prop := w.ownsRow base 9 1 (.slice A l.length c) l.length (l.map Value.string)
theorem OwnS.rd {w : World} {base : Nat} {A : Option Addr} {c : Nat} {l : List ByteArray} (h : OwnS w base A c l) : RdS w A l.length l := RdV.of_own h
theorem hI_str : (Tryd.prog.info? 9).map (fun i => (i.zero, i.size, i.bytes)) = some (some (.string ⟨#[]⟩), 1, 16) := by kernel_rfl
theorem grownBy_refl (w : World) (row : Option Nat) : w.grownBy w row := ⟨rfl, rfl, rfl, Nat.le_refl _, fun _ _ _ => rfl⟩
theorem grown_below {w w' : World} (row : Option Nat) (hb : Below w.heap.size w w') : w.grownBy w' row := ⟨hb.os, hb.tape, hb.output, hb.size, fun k hk _ => hb.block k hk⟩
theorem results_tmp2 {fn : Func} {t u : Tmp} (h : fn.results = #[.tmp t, .tmp u]) (tmps : Array Value) (P : Program) (w : World) : (results fn tmps).run P w = .ok (.tuple #[tmps.getD t undef, tmps.getD u undef]) w := by
  simp [results, h]
theorem RdS.grown {w w' : World} {base : Nat} {A : Option Addr} {n : Nat} {xs : List ByteArray} {v : Value} {m : Nat} {us : List Value} (h : RdS w A n xs) (ho : w.ownsRow base 9 1 v m us) (hA : n = 0 ∨ ∀ b o, A = some ⟨b, o, none⟩ → b < base)
    (hg : w.grownBy w' v.ownBlock) : RdS w' A n xs := by
  refine ⟨h.1, fun hn => ?_⟩
  obtain ⟨b, off, e, hb, hc⟩ := RdV.at_ h hn
  subst e
  refine ⟨b, off, rfl, fun i u hu => ?_⟩
  rw [World.cell?_of_block (hg.block b hb (fun e => by
    have h1 := (ho.lt b e.symm).1
    rcases hA with h0 | h0
    · omega
    · have := h0 b off rfl; omega))]
  exact hc i u hu
theorem OwnS.old {w : World} {base base' : Nat} {A : Option Addr} {c : Nat} {xs : List ByteArray} (h : OwnS w base A c xs) (hb : w.heap.size ≤ base') : xs.length = 0 ∨ ∀ b o, A = some ⟨b, o, none⟩ → b < base' := by
  right
  rintro b o rfl
  exact Nat.lt_of_lt_of_le (h.lt b rfl).2 hb

theorem str_add (a b : List Int) : strOfNums a ++ strOfNums b = strOfNums (a ++ b) := by
  unfold strOfNums
  rw [ByteArray.mk_append_mk]
  simp
theorem run_str_add {P : Program} (a b : List Int) (w : World) (h : a.length + b.length ≤ 16777216) : (Op.stringOp .add (strOfNums a) (strOfNums b)).run P w = .ok (.string (strOfNums (a ++ b))) w := by
  rw [run_string_add_sum w _ _ (by rw [strOfNums_size, strOfNums_size]; omega), str_add]
end Go.Proofs.YtcogdogiceokdaaDoor
