/- Arguments that are structs of a slice of structs: how they are opened. -/
import Derived.Test.YtcogdogiceokdaaDoorFmA
import Derived.WalkKit
import Derived.OpenShut
import Derived.ChangeSlices
import Derived.ChangeArms
namespace Go.Proofs.YtcogdogiceokdaaDoor
open Go.RowKit Go.ChangeShapes Go.WideShapes Go.Deep

section
variable {H : Type} {enc : TypeId × Value → H} {P : Program} {w : World}
theorem open_row {t e : TypeId} {fuel : Nat} {cs : List Value} {x : DataW H × List MemPlace} (ht : P.underlying t = some (.slice e)) (he : P.underlying e = some (.int .i64)) (hc : P.cellsOf e = 1)
    (h : DataW.trod enc P w 0 (fun _ => true) true fuel t cs = some x) : ∃ r : Row, cs = [r.val] ∧ r.rd w ∧ r.xs.length ≤ maxLen ∧ Fits .i64 r.xs := by
  rcases open_ints ht he hc h with ⟨rfl, _⟩ | ⟨a, l, c, zs, rfl, _, hl, hm, hz, _, hcell, hwz⟩
  · exact ⟨⟨none, 0, []⟩, rfl, RdI.nil, Nat.zero_le _, Fits.nil⟩
  · have hz2 : zs.length = c := by simpa using hz
    have hll : (zs.take l).length = l := by rw [List.length_take]; omega
    refine ⟨⟨some a, c, zs.take l⟩, ?_, ?_, ?_, Fits.take hwz⟩
    · show [Value.slice (some a) l c] = [Value.slice (some a) (zs.take l).length c]
      rw [hll]
    · show RdI w (some a) (zs.take l).length (zs.take l)
      rw [hll]
      exact RdV.of_open hz2 hl hcell
    · show (zs.take l).length ≤ maxLen
      rw [hll]; omega
/-- A slice of structs that each open as an element. -/
theorem open_els {t e : TypeId} {p q fuel : Nat} {cs : List Value} {x : DataW H × List MemPlace} (ht : P.underlying t = some (.slice e)) (hc : P.cellsOf e = p + q) (hpq : 0 < p + q)
    (hel : ∀ (n : Nat) (cs' : List Value) (y : DataW H × List MemPlace), DataW.trod enc P w 0 (fun _ => true) true n e cs' = some y → ∃ el : El, cs' = el.cells ∧ el.is.length = p ∧ el.rs.length = q ∧ (∀ r ∈ el.rs, r.rd w ∧ r.xs.length ≤ maxLen) ∧ Fits .i64 el.is)
    (h : DataW.trod enc P w 0 (fun _ => true) true fuel t cs = some x) :
    ∃ (A : Option Addr) (n c : Nat) (es : List El), cs = [.slice A n c] ∧ RdE p q w A n es ∧ n ≤ maxLen ∧ (∀ el ∈ es, Fits .i64 el.is ∧ ∀ r ∈ el.rs, r.xs.length ≤ maxLen) := by
  rcases open_slice ht h with ⟨rfl, _⟩ | ⟨a, len, cap, m, n, D, Pl, rfl, hb, hl, hm, hmm, rfl, hx⟩
  · exact ⟨none, 0, 0, [], rfl, RdE.nil, Nat.zero_le _, fun el he => by simp at he⟩
  rw [hc] at hx
  have hlm : len ≤ m := by rw [hmm]; split <;> omega
  have each : ∀ i, i < len → ∃ el : El, (el.is.length = p ∧ el.rs.length = q) ∧ (∀ r ∈ el.rs, r.rd w ∧ r.xs.length ≤ maxLen) ∧ Fits .i64 el.is ∧ ∀ j u, el.cells[j]? = some u → w.cell? (a.add (i * (p + q) + j)) = some u := by
    intro i hi
    obtain ⟨cs', h1, h2⟩ := hx i (by omega)
    obtain ⟨el, rfl, f1, f2, f3, f4⟩ := hel _ _ _ h2
    obtain ⟨_, hlen, hcell⟩ := World.cells?_some h1
    refine ⟨el, ⟨f1, f2⟩, f3, f4, fun j u hu => ?_⟩
    have hj : j < p + q := by
      rw [← hlen]
      rcases Nat.lt_or_ge j el.cells.length with h0 | h0
      · exact h0
      · rw [List.getElem?_eq_none h0] at hu; cases hu
    rw [← add_add]
    rw [hcell j hj, hu]
  have : Inhabited El := ⟨⟨[], []⟩⟩
  obtain ⟨g, hg⟩ := choose_lt each
  refine ⟨some a, len, cap, (List.range len).map g, rfl, ?_, by omega, ?_⟩
  · refine ⟨by simp, ?_, ?_, ?_⟩
    · intro el he
      obtain ⟨i, hi, rfl⟩ := List.mem_map.1 he
      exact (hg i (List.mem_range.1 hi)).1
    · intro el he r hr
      obtain ⟨i, hi, rfl⟩ := List.mem_map.1 he
      exact ((hg i (List.mem_range.1 hi)).2.1 r hr).1
    · intro hn
      obtain ⟨⟨k1, k2⟩, _, _, k4⟩ := hg 0 hn
      have h0 : ∃ u, (g 0).cells[0]? = some u := by
        have : 0 < (g 0).cells.length := by unfold El.cells; simp; omega
        exact ⟨_, List.getElem?_eq_getElem this⟩
      obtain ⟨u, hu⟩ := h0
      have hc0 := k4 0 u hu
      obtain ⟨b, off, spot⟩ := a
      have hspot : spot = none := by simpa [Addr.add] using World.cell?_spot hc0
      subst hspot
      refine ⟨b, off, rfl, ?_, ?_⟩
      · have := cell_lt hc0
        simpa [Addr.add] using this
      · intro k el hk j u hu
        obtain ⟨hk1, hk2⟩ := List.getElem?_eq_some_iff.1 hk
        have hkl : k < len := by simpa using hk1
        have he : el = g k := by rw [← hk2]; simp
        subst he
        have := (hg k hkl).2.2.2 j u hu
        simp only [Addr.add] at this
        split at this
        · rename_i h0; rw [h0]; simpa using this
        · exact this
  · intro el he
    obtain ⟨i, hi, rfl⟩ := List.mem_map.1 he
    exact ⟨(hg i (List.mem_range.1 hi)).2.2.1, fun r hr => ((hg i (List.mem_range.1 hi)).2.1 r hr).2⟩
end
section
variable {H : Type} {enc : TypeId × Value → H} {w : World}
set_option maxRecDepth 100000 in
theorem open_claim {n : Nat} {cs : List Value} {y : DataW H × List MemPlace} (h : DataW.trod enc Tryd.prog w 0 (fun _ => true) true n 61 cs = some y) :
    ∃ el : El, cs = el.cells ∧ el.is.length = 2 ∧ el.rs.length = 2 ∧ (∀ r ∈ el.rs, r.rd w ∧ r.xs.length ≤ maxLen) ∧ Fits .i64 el.is := by
  obtain ⟨ys, m, _, _, hl, hyl, hf⟩ := DataW.trod_struct Tryd.underlying61 h
  have hl2 : cs.length = 4 := hl.trans (by kernel_rfl)
  have hy2 : ys.length = 4 := hyl
  have c1 : Tryd.prog.cellsOf 42 = 1 := by kernel_rfl
  have c2 : Tryd.prog.cellsOf 3 = 1 := by kernel_rfl
  match cs, hl2, ys, hy2 with
  | [u0, u1, v0, v1], _, [x0, x1, y0, y1], _ =>
    have k0 := hf 0 _ rfl
    have k1 := hf 1 _ rfl
    have g0 := hf 2 _ rfl
    have g1 := hf 3 _ rfl
    simp [c1, c2] at k0 k1 g0 g1
    obtain ⟨i0, d0, _, w0⟩ := DataW.trod_int Tryd.underlying3 k0
    obtain ⟨i1, d1, _, w1⟩ := DataW.trod_int Tryd.underlying3 k1
    obtain ⟨r0, e0, a0, b0, _⟩ := open_row Tryd.underlying42 Tryd.underlying3 (by kernel_rfl) g0
    obtain ⟨r1, e1, a1, b1, _⟩ := open_row Tryd.underlying42 Tryd.underlying3 (by kernel_rfl) g1
    injection d0 with d0
    injection d1 with d1
    injection e0 with e0
    injection e1 with e1
    subst d0 d1 e0 e1
    refine ⟨⟨[i0, i1], [r0, r1]⟩, rfl, rfl, rfl, fun r hr => ?_, fun i hi => ?_⟩
    · simp only [List.mem_cons, List.not_mem_nil, or_false] at hr
      rcases hr with rfl | rfl
      · exact ⟨a0, b0⟩
      · exact ⟨a1, b1⟩
    · simp only [List.mem_cons, List.not_mem_nil, or_false] at hi
      rcases hi with rfl | rfl
      · exact w0
      · exact w1
set_option maxRecDepth 100000 in
theorem open_proof {v : Value} {d : DataW H} {p : List MemPlace} {r : Reach} {b0 : Nat} (hv : Value.okWide Tryd.prog w r b0 24 v) (h : DataW.Trod enc Tryd.prog w 0 (fun _ => true) true 24 v d p) :
    ∃ (A : Option Addr) (n c : Nat) (es : List El), v = .agg #[.slice A n c] ∧ RdE 2 2 w A n es ∧ n ≤ maxLen ∧ (∀ el ∈ es, Fits .i64 el.is ∧ ∀ r ∈ el.rs, r.xs.length ≤ maxLen) := by
  obtain ⟨fuel, hf⟩ := h
  obtain ⟨cs, rfl, hsz⟩ := okWide_struct Tryd.underlying24 hv
  obtain ⟨y0, n, _, _, g0⟩ := trod_struct1 Tryd.underlying24 hf
  have c1 : Tryd.prog.cellsOf 22 = 1 := by kernel_rfl
  have h1 : cs.size = 1 := hsz.trans (by kernel_rfl)
  obtain ⟨v0, rfl⟩ : ∃ v0, cs = #[v0] := Array.size_eq_one_iff.1 h1
  simp [c1, Value.cells] at g0
  obtain ⟨A, n, c, es, e, k⟩ := open_els (p := 2) (q := 2) Tryd.underlying22 (by kernel_rfl) (by decide) (fun _ _ _ h => open_claim h) g0
  injection e with e
  subst e
  exact ⟨A, n, c, es, rfl, k⟩
end
end Go.Proofs.YtcogdogiceokdaaDoor
