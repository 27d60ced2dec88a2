/- Slices of structs are copied: the loop's middle; forms. -/
import Derived.Test.YtcogdogiceokdaaDoorFmC
namespace Go.Proofs.YtcogdogiceokdaaDoor
open Go.RowKit

theorem run_make_rows {P : Program} (t e : TypeId) (z : Value) (size bytes : Nat) (ht : P.underlying t = some (.slice e)) (hinfo : (P.info? e).map (fun i => (i.zero, i.size, i.bytes)) = some (some z, size, bytes))
    (n : Nat) (hbytes : bytes * n ≤ 281474976710656) (h63 : n ≤ 9223372036854775807) (w : World) :
    (Instr.makeSlice t (.int .i64 (n : Int)) (.int .i64 (n : Int))).run P w = .ok (.slice (some ⟨w.heap.size, 0, none⟩) n n) (w.alloc (.cells (madeCells z.cells (n * size)) e)) := by
  obtain ⟨i, hi, hzz⟩ := Option.map_eq_some_iff.1 hinfo
  simp only [Prod.mk.injEq] at hzz
  obtain ⟨hz, hs, hb⟩ := hzz
  subst hs hb
  have hb' : (i.bytes : Int) * (n : Int) ≤ 281474976710656 := by
    have h : ((i.bytes * n : Nat) : Int) ≤ 281474976710656 := by omega
    rwa [Int.natCast_mul] at h
  have hr := run_make (P := P) w t e i z ht hi hz .i64 .i64 n n (by omega) (Int.le_refl _) hb' (by omega)
  simpa using hr
theorem rowIs_new (w : World) (c : Array Value) (t : TypeId) {n : Nat} (hn : c.size = n) : (w.alloc (.cells c t)).rowIs w.heap.size t n (fun j => c.getD j undef) := by
  subst hn
  exact World.rowIs_alloc w c t _ (fun i hi => by simp [Array.getD, hi])
/-- The loop's middle: the first k structs are written. -/
structure Mid (p q : Nat) (t : TypeId) (w : World) (g n k : Nat) (es : List El) (f : Nat → Value) : Prop where
  row : w.rowIs g t (n * (p + q)) f
  said : ∀ j, j < k * (p + q) → f j = (es.flatMap El.cells).getD j undef
  len : es.length = k
  fit : ∀ e ∈ es, e.is.length = p ∧ e.rs.length = q
  rows : ∀ e ∈ es, ∀ r ∈ e.rs, r.own w (g + 1)
  apart : (es.flatMap El.rs).Pairwise fun r s => r.blk = none ∨ r.blk ≠ s.blk
theorem Mid.start {p q : Nat} {t : TypeId} {w : World} {g n : Nat} {f : Nat → Value} (h : w.rowIs g t (n * (p + q)) f) : Mid p q t w g n 0 [] f :=
  ⟨h, fun j hj => by omega, rfl, fun e he => by simp at he, fun e he => by simp at he, by simp⟩
theorem Mid.own {p q : Nat} {t : TypeId} {w : World} {g n base : Nat} {es : List El} {f : Nat → Value} (h : Mid p q t w g n n es f) (hb : base ≤ g) : OwnE p q t w base g n es :=
  ⟨hb, h.row.congr h.said, h.len, h.fit, h.rows, h.apart⟩
theorem Mid.below {p q : Nat} {t : TypeId} {w w' : World} {g n k : Nat} {es : List El} {f : Nat → Value} (h : Mid p q t w g n k es f) (hb : Below w.heap.size w w') : Mid p q t w' g n k es f :=
  ⟨h.row.of_block (hb.block g h.row.lt), h.said, h.len, h.fit, fun e he r hr => own_below (h.rows e he r hr) hb, h.apart⟩
theorem Mid.step {p q : Nat} {t : TypeId} {wz w1 w2 : World} {g n k : Nat} {es : List El} {e : El} {f f' : Nat → Value} (h : Mid p q t wz g n k es f) (b1 : Below wz.heap.size wz w1)
    (hset : ∀ base E v m us, g < base → w1.ownsRow base E 1 v m us → w2.ownsRow base E 1 v m us) (hrow : w2.rowIs g t (n * (p + q)) f')
    (hsaid : ∀ j, j < (k + 1) * (p + q) → f' j = ((es ++ [e]).flatMap El.cells).getD j undef) (hfit : e.is.length = p ∧ e.rs.length = q) (hr : ∀ r ∈ e.rs, r.own w1 wz.heap.size)
    (hap : e.rs.Pairwise fun r s => r.blk = none ∨ r.blk ≠ s.blk) : Mid p q t w2 g n (k + 1) (es ++ [e]) f' := by
  have hg := h.row.lt
  refine ⟨hrow, hsaid, by simp [h.len], ?_, ?_, ?_⟩
  · intro x hx
    rcases List.mem_append.1 hx with hx | hx
    · exact h.fit x hx
    · obtain rfl := List.mem_singleton.1 hx
      exact hfit
  · intro x hx r hrr
    rcases List.mem_append.1 hx with hx | hx
    · exact hset _ _ _ _ _ (by omega) (own_below (h.rows x hx r hrr) b1)
    · obtain rfl := List.mem_singleton.1 hx
      exact hset _ _ _ _ _ (by omega) (own_low (hr r hrr) (by omega))
  · rw [List.flatMap_append, List.pairwise_append]
    refine ⟨h.apart, by simpa using hap, fun a ha b hb => ?_⟩
    obtain ⟨x, hx, hxa⟩ := List.mem_flatMap.1 ha
    have hb' : b ∈ e.rs := by simpa using hb
    cases ea : a.blk with
    | none => exact .inl rfl
    | some i =>
      right
      intro e2
      have h1 := ((h.rows x hx a hxa).lt i ea).2
      have h2 := ((hr b hb').lt i e2.symm).1
      omega
theorem dats_step {es es' : List El} {k : Nat} {e x : El} (hd : dats es' = (dats es).take k) (he : es[k]? = some e) (hx : x.dat = e.dat) : dats (es' ++ [x]) = (dats es).take (k + 1) := by
  obtain ⟨hk, h⟩ := List.getElem?_eq_some_iff.1 he
  have hk2 : k < (dats es).length := by simpa using hk
  rw [List.take_succ_eq_append_getElem hk2, ← hd]
  unfold dats
  rw [List.map_append]
  simp [h, hx]
/-- A copy of a slice of structs. -/
def CopyP (p q : Nat) (t : TypeId) (es : List El) (w : World) (e : Ending) (w' : World) : Prop :=
  ∃ g es', e = .returned (.slice (some ⟨g, 0, none⟩) es.length es.length) ∧ OwnE p q t w' w.heap.size g es.length es' ∧ dats es' = dats es ∧ Below w.heap.size w w'
/-- A copy of a struct of a slice of structs. -/
def CopyS (p q : Nat) (t : TypeId) (es : List El) (w : World) (e : Ending) (w' : World) : Prop :=
  ∃ g es', e = .returned (.agg #[.slice (some ⟨g, 0, none⟩) es.length es.length]) ∧ OwnE p q t w' w.heap.size g es.length es' ∧ dats es' = dats es ∧ Below w.heap.size w w'
theorem own_setE {p q : Nat} {t : TypeId} {w : World} {base g n : Nat} {es : List El} (h : OwnE p q t w base g n es) {a : Addr} (hb : a.block < base) (x : Value) : OwnE p q t (w.setCell a x) base g n es := by
  have := h.low
  exact ⟨h.low, h.row.setOther (by omega) _, h.len, h.fit, fun e he r hr => own_set (h.rows e he r hr) (by omega) _, h.apart⟩
end Go.Proofs.YtcogdogiceokdaaDoor
