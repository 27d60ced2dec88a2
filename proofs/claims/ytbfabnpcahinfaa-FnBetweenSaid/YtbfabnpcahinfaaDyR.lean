/- Draws: two numbers, for sums. -/
import Derived.Test.YtbfabnpcahinfaaDyQ
namespace Go.Proofs.Ytbfabnpcahinfaa
open Go.RowKit

/-- Two drawn numbers. -/
def TwoD (w : World) (e : Ending) (w' : World) : Prop :=
  ∃ t p u q : Int, e = .returned (.tuple #[dv t p, dv u q]) ∧ (-1000001 ≤ t ∧ t ≤ 1000001 ∧ -1 ≤ p ∧ p ≤ 17) ∧ (-1000001 ≤ u ∧ u ≤ 1000001 ∧ -1 ≤ q ∧ q ≤ 17) ∧ Below w.heap.size w w'
theorem Cur.same {w w' : World} {g : Nat} {A : Option Addr} {n c : Nat} {bs : List Int} {m : Int} (h : Cur w g A n c bs m) (hh : w'.heap = w.heap) : Cur w' g A n c bs m := by
  obtain ⟨⟨at', seed, hb, r⟩, hr, hf, hne⟩ := h
  refine ⟨⟨at', seed, by rw [hh]; exact hb, r⟩, ⟨hr.1, fun hn => ?_⟩, hf, hne⟩
  obtain ⟨b, off, hA, _, hc⟩ := hr.at_ hn
  exact ⟨b, off, hA, fun i u hu => (World.cell?_of_block (a := ⟨b, off + i, none⟩) (by rw [hh])).trans (hc i u hu)⟩
theorem res_dd {fn : Func} {p u : Nat} (tmps : Array Value) (w : World) {a b : Nat} {x y z v : Int} (h : fn.results = #[.cell p 26, .cell u 26])
    (hp : tmps.getD p undef = .pointer (some ⟨a, 0, none⟩)) (hu : tmps.getD u undef = .pointer (some ⟨b, 0, none⟩)) (ha : Bx w a x y) (hb : Bx w b z v) :
    (results fn tmps).run Try.prog w = .ok (.tuple #[dv x y, dv z v]) w := by
  have h0 := ha.1
  have h1 := ha.2.1
  have h2 := hb.1
  have h3 := hb.2.1
  simp only [Array.getD_eq_getD_getElem?] at hp hu
  simp only [results, h]
  simp [hp, hu, go_sem, h0, h1, h2, h3]
set_option maxHeartbeats 4000000 in
theorem c_DrawAddDyadic (A : Option Addr) (n c : Nat) (bs : List Int) (w : World) (hc : Code8 w A n bs) :
    Calls Try.prog 39 #[.slice A n c] w (TwoD w) := by
  obtain ⟨hr, hf, hn⟩ := hc
  obtain ⟨W2, hW2⟩ : ∃ W2, W2 = (w.alloc (.cells #[.int .i64 0, .int .i64 0] 26)).alloc (.cells #[.int .i64 0, .int .i64 0] 26) := ⟨_, rfl⟩
  have BW : Below w.heap.size w W2 := by rw [hW2]; exact ((Below.refl _ _).alloc (Nat.le_refl _) _).alloc (by simp) _
  have hcur := cur_new (c := c) (hr.below BW) hf
  have hz : W2.heap.size = w.heap.size + 1 + 1 := by rw [hW2]; simp
  have R2 : Bx W2 w.heap.size 0 0 := by rw [hW2]; exact (Bx.new w 0 0 _).below ((Below.refl _ _).alloc (Nat.le_refl _) _)
  have R3 : Bx W2 (w.heap.size + 1) 0 0 := by
    rw [hW2]
    have := Bx.new (w.alloc (.cells #[.int .i64 0, .int .i64 0] 26)) 0 0 26
    simpa using this
  have H2 := Lib.hid R2
  have H3 := Lib.hid R3
  clear R2 R3 hr
  have hsz := hz
  rw [hz] at hcur
  rw [hW2] at hcur
  go_enter Try.func39, Try.ntmps39
  go_wp2_with fail
  refine (c_anyDyadic _ A n c bs _ _ hcur (by omega) (by omega)).mono ?_
  rintro e w1 ⟨t, p, rfl, t0, t1, p0, p1, hc1, gr1⟩
  rw [← hW2] at gr1
  clear hcur
  have hs1 : w.heap.size + 1 + 1 + 1 ≤ w1.heap.size := by have := gr1.size; simp at this; omega
  have R2 := (H2.out.below ((Below.refl _ _).alloc (Nat.le_refl _) (.cells #[.slice A n c, .int .i64 0, .int .u64 0] 67))).grown gr1 (fun e => by have := Option.some.inj e; omega)
  have R3 := (H3.out.below ((Below.refl _ _).alloc (Nat.le_refl _) (.cells #[.slice A n c, .int .i64 0, .int .u64 0] 67))).grown gr1 (fun e => by have := Option.some.inj e; omega)
  have B1 : Below w.heap.size w w1 := (BW.alloc (by omega) (.cells #[.slice A n c, .int .i64 0, .int .u64 0] 67)).grown gr1 (by simp; omega) (fun k hk => by have := Option.some.inj hk; omega)
  have R2 := Lib.hid R2
  have R3 := Lib.hid R3
  have B1 := Lib.hid B1
  have Hc := Lib.hid hc1
  clear gr1 hc1 H2 H3 BW hW2 hz hsz
  have gl : w.heap.size + 1 + 1 < w1.heap.size := by omega
  have Hc5 := Lib.hid (Hc.out.below ((Below.refl _ _).alloc (Nat.le_refl _) (.cells #[.int .i64 t, .int .i64 p] 26)))
  have Z5 := Lib.hid (Bx.new w1 t p 26)
  have R25 := Lib.hid (R2.out.below ((Below.refl _ _).alloc (Nat.le_refl _) (.cells #[.int .i64 t, .int .i64 p] 26)))
  have R35 := Lib.hid (R3.out.below ((Below.refl _ _).alloc (Nat.le_refl _) (.cells #[.int .i64 t, .int .i64 p] 26)))
  have B5 := Lib.hid (B1.out.alloc (by omega) (.cells #[.int .i64 t, .int .i64 p] 26))
  have z0 := Z5.out.1
  have z1 := Z5.out.2.1
  have Hc6 : Hid (Cur (w1.alloc (.cells #[.int .i64 t, .int .i64 p] 26)).drew (w.heap.size + 1 + 1) A n c bs (0 + 10)) := Lib.hid (Hc5.out.same rfl)
  have Z6 : Hid (Bx (w1.alloc (.cells #[.int .i64 t, .int .i64 p] 26)).drew w1.heap.size t p) := Lib.hid (Z5.out.keep rfl)
  have R26 : Hid (Bx (w1.alloc (.cells #[.int .i64 t, .int .i64 p] 26)).drew w.heap.size 0 0) := Lib.hid (R25.out.keep rfl)
  have R36 : Hid (Bx (w1.alloc (.cells #[.int .i64 t, .int .i64 p] 26)).drew (w.heap.size + 1) 0 0) := Lib.hid (R35.out.keep rfl)
  have B6 : Hid (Below w.heap.size w (w1.alloc (.cells #[.int .i64 t, .int .i64 p] 26)).drew) := Lib.hid ⟨B5.out.os, B5.out.tape, B5.out.output, B5.out.size, B5.out.block⟩
  clear R2 R3 B1 Hc Hc5 Z5 R25 R35 B5
  go_upto_region 3 with fail
  go_region_held3 (fun w' => w'.cell? ⟨w1.heap.size, 0, none⟩ = some (.int .i64 t) ∧ w'.cell? ⟨w1.heap.size, 1, none⟩ = some (.int .i64 p)) (simp [go_sem, *])
    ((go_at_call 59; refine (c_anyDyadic _ A n c bs _ _ Hc6.out (by omega) (by omega)).mono ?_; rintro e w2 ⟨u, q, rfl, u0, u1, q0, q1, hc2, gr2⟩; have zz := Z6.out.grown gr2 (fun e => by have := Option.some.inj e; omega); have y0 := zz.1; have y1 := zz.2.1; have za := R26.out.grown gr2 (fun e => by have := Option.some.inj e; omega); have zb := R36.out.grown gr2 (fun e => by have := Option.some.inj e; omega); have a0 := za.1; have a1 := za.2.1; have af := za.2.2; have b0 := zb.1; have b1 := zb.2.1; have bf := zb.2.2; have BB : Below w.heap.size w w2 := B6.out.grown gr2 (by simp; omega) (fun k hk => by have := Option.some.inj hk; omega); have l1 : ¬ w1.heap.size = w.heap.size := (by omega); have l2 : ¬ w1.heap.size = w.heap.size + 1 := (by omega)))
  all_goals
    go_wp2_with fail
    first
      | (have xa := (((za.set0 t).set1 p).other (b' := w.heap.size + 1) (by omega) 0 (.int .i64 u)).other (b' := w.heap.size + 1) (by omega) 1 (.int .i64 q)
         have xb := (((zb.other (b' := w.heap.size) (by omega) 0 (.int .i64 t)).other (b' := w.heap.size) (by omega) 1 (.int .i64 p)).set0 u).set1 q
         exact bodyPost_ret (res_dd _ _ rfl rfl rfl xa xb) rfl ⟨t, p, u, q, rfl, ⟨t0, t1, p0, p1⟩, ⟨u0, u1, q0, q1⟩, (((BB.setCell (by simp) _).setCell (by simp) _).setCell (by simp) _).setCell (by simp) _⟩)
      | (have xb := (((zb.set0 u).set1 q).other (b' := w.heap.size) (by omega) 0 (.int .i64 t)).other (b' := w.heap.size) (by omega) 1 (.int .i64 p)
         have xa := (((za.other (b' := w.heap.size + 1) (by omega) 0 (.int .i64 u)).other (b' := w.heap.size + 1) (by omega) 1 (.int .i64 q)).set0 t).set1 p
         exact bodyPost_ret (res_dd _ _ rfl rfl rfl xa xb) rfl ⟨t, p, u, q, rfl, ⟨t0, t1, p0, p1⟩, ⟨u0, u1, q0, q1⟩, (((BB.setCell (by simp) _).setCell (by simp) _).setCell (by simp) _).setCell (by simp) _⟩)
end Go.Proofs.Ytbfabnpcahinfaa
