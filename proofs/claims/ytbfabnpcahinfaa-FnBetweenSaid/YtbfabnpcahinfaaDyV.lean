/- Draws: two numbers, the second one often near the first. -/
import Derived.Test.YtbfabnpcahinfaaDyU
namespace Go.Proofs.Ytbfabnpcahinfaa
open Go.RowKit

theorem mem5 {z : Int} (h : z ∈ [(0 : Int), 1, 4, 15, 16]) : ∃ k : Nat, z = (k : Int) ∧ k ≤ 16 := by
  simp only [List.mem_cons, List.not_mem_nil, or_false] at h
  exact ⟨z.toNat, by omega, by omega⟩
set_option maxHeartbeats 4000000 in
theorem c_DrawSimplestBetween (A : Option Addr) (n c : Nat) (bs : List Int) (w : World) (hc : Code8 w A n bs) :
    Calls Try.prog 40 #[.slice A n c] w (TwoA w) := by
  obtain ⟨hr, hf, hn⟩ := hc
  obtain ⟨W2, hW2⟩ : ∃ W2, W2 = (w.alloc (.cells #[.int .i64 0, .int .i64 0] 26)).alloc (.cells #[.int .i64 0, .int .i64 0] 26) := ⟨_, rfl⟩
  have BW : Below w.heap.size w W2 := by rw [hW2]; exact ((Below.refl _ _).alloc (Nat.le_refl _) _).alloc (by simp) _
  have hcur := cur_new (c := c) (hr.below BW) hf
  have hz : W2.heap.size = w.heap.size + 1 + 1 := by rw [hW2]; simp
  have R2 : Bx W2 w.heap.size 0 0 := by rw [hW2]; exact (Bx.new w 0 0 _).below ((Below.refl _ _).alloc (Nat.le_refl _) _)
  have R3 : Bx W2 (w.heap.size + 1) 0 0 := by
    rw [hW2]
    have := Bx.new (w.alloc (.cells #[.int .i64 0, .int .i64 0] 26)) 0 0 26
    simpa using this
  have H2 := Lib.hid R2
  have H3 := Lib.hid R3
  clear R2 R3 hr
  have hsz := hz
  rw [hz] at hcur
  rw [hW2] at hcur
  go_enter Try.func40, Try.ntmps40
  go_wp2_with fail
  refine (c_anyDyadic _ A n c bs _ _ hcur (by omega) (by omega)).mono ?_
  rintro e w1 ⟨t, p, rfl, t0, t1, p0, p1, hc1, gr1⟩
  rw [← hW2] at gr1
  clear hcur
  have hs1 : w.heap.size + 1 + 1 + 1 ≤ w1.heap.size := by have := gr1.size; simp at this; omega
  have R2 := (H2.out.below ((Below.refl _ _).alloc (Nat.le_refl _) (.cells #[.slice A n c, .int .i64 0, .int .u64 0] 67))).grown gr1 (fun e => by have := Option.some.inj e; omega)
  have R3 := (H3.out.below ((Below.refl _ _).alloc (Nat.le_refl _) (.cells #[.slice A n c, .int .i64 0, .int .u64 0] 67))).grown gr1 (fun e => by have := Option.some.inj e; omega)
  have B1 : Below w.heap.size w w1 := (BW.alloc (by omega) (.cells #[.slice A n c, .int .i64 0, .int .u64 0] 67)).grown gr1 (by simp; omega) (fun k hk => by have := Option.some.inj hk; omega)
  have R2 := Lib.hid R2
  have R3 := Lib.hid R3
  have B1 := Lib.hid B1
  have Hc := Lib.hid hc1
  clear gr1 hc1 H2 H3 BW hW2 hz hsz
  have gl : w.heap.size + 1 + 1 < w1.heap.size := by omega
  have Hc5 := Lib.hid (Hc.out.below ((Below.refl _ _).alloc (Nat.le_refl _) (.cells #[.int .i64 t, .int .i64 p] 26)))
  have Z5 := Lib.hid (Bx.new w1 t p 26)
  have R25 := Lib.hid (R2.out.below ((Below.refl _ _).alloc (Nat.le_refl _) (.cells #[.int .i64 t, .int .i64 p] 26)))
  have R35 := Lib.hid (R3.out.below ((Below.refl _ _).alloc (Nat.le_refl _) (.cells #[.int .i64 t, .int .i64 p] 26)))
  have B5 := Lib.hid (B1.out.alloc (by omega) (.cells #[.int .i64 t, .int .i64 p] 26))
  clear R2 R3 B1 Hc
  go_upto_region 3 with fail
  generalize w1.alloc (.cells #[.int .i64 t, .int .i64 p] 26) = v1 at *
  generalize w1.heap.size = g5 at *
  go_wp2_with (go_at_call 60; refine (c_one 3 _ A n c bs _ _ Hc5.out (by omega) (by omega) (by decide) (by decide)).mono ?_; rintro e v2 ⟨x, rfl, hc2, gr2⟩; refine Hid.out ?_)
  refine Lib.hid ?_
  have Z := Lib.hid (Z5.out.grown gr2 (fun e => by have := Option.some.inj e; omega))
  have R2 := Lib.hid (R25.out.grown gr2 (fun e => by have := Option.some.inj e; omega))
  have R3 := Lib.hid (R35.out.grown gr2 (fun e => by have := Option.some.inj e; omega))
  have B := Lib.hid (B5.out.grown gr2 B5.out.size (fun k hk => by have := Option.some.inj hk; omega))
  have Hc := Lib.hid hc2
  have hg5 : g5 < v2.heap.size := Z.out.lt
  clear Z5 R25 R35 B5 Hc5 gr2 hc2
  cases x
  · have Hc6 : Hid (Cur v2.drew (w.heap.size + 1 + 1) A n c bs (0 + 10 + 2)) := Lib.hid (Hc.out.same rfl)
    have Z6 : Hid (Bx v2.drew g5 t p) := Lib.hid (Z.out.keep rfl)
    have R26 : Hid (Bx v2.drew w.heap.size 0 0) := Lib.hid (R2.out.keep rfl)
    have R36 : Hid (Bx v2.drew (w.heap.size + 1) 0 0) := Lib.hid (R3.out.keep rfl)
    have B6 : Hid (Below w.heap.size w v2.drew) := Lib.hid ⟨B.out.os, B.out.tape, B.out.output, B.out.size, B.out.block⟩
    have z0 := Z.out.1
    have z1 := Z.out.2.1
    clear Z R2 R3 B Hc
    go_upto_region 5 with fail
    go_region_held3 (fun w' => w'.cell? ⟨g5, 0, none⟩ = some (.int .i64 t) ∧ w'.cell? ⟨g5, 1, none⟩ = some (.int .i64 p)) (simp [go_sem, *])
      ((go_at_call 59; refine (c_anyDyadic _ A n c bs _ _ Hc6.out (by omega) (by omega)).mono ?_; rintro e w2 ⟨u, q, rfl, u0, u1, q0, q1, hc2, gr2⟩; have zz := Z6.out.grown gr2 (fun e => by have := Option.some.inj e; omega); have y0 := zz.1; have y1 := zz.2.1; have za := R26.out.grown gr2 (fun e => by have := Option.some.inj e; omega); have zb := R36.out.grown gr2 (fun e => by have := Option.some.inj e; omega); have a0 := za.1; have a1 := za.2.1; have af := za.2.2; have b0 := zb.1; have b1 := zb.2.1; have bf := zb.2.2; have BB : Below w.heap.size w w2 := B6.out.grown gr2 B6.out.size (fun k hk => by have := Option.some.inj hk; omega); have l1 : ¬ g5 = w.heap.size := (by omega); have l2 : ¬ g5 = w.heap.size + 1 := (by omega)))
    all_goals
      go_wp2_with fail
      first
        | (have xa := (((za.set0 t).set1 p).other (b' := w.heap.size + 1) (by omega) 0 (.int .i64 u)).other (b' := w.heap.size + 1) (by omega) 1 (.int .i64 q)
           have xb := (((zb.other (b' := w.heap.size) (by omega) 0 (.int .i64 t)).other (b' := w.heap.size) (by omega) 1 (.int .i64 p)).set0 u).set1 q
           exact bodyPost_ret (res_dd _ _ rfl rfl rfl xa xb) rfl ⟨t, p, u, q, rfl, (((BB.setCell (by simp) _).setCell (by simp) _).setCell (by simp) _).setCell (by simp) _⟩)
        | (have xb := (((zb.set0 u).set1 q).other (b' := w.heap.size) (by omega) 0 (.int .i64 t)).other (b' := w.heap.size) (by omega) 1 (.int .i64 p)
           have xa := (((za.other (b' := w.heap.size + 1) (by omega) 0 (.int .i64 u)).other (b' := w.heap.size + 1) (by omega) 1 (.int .i64 q)).set0 t).set1 p
           exact bodyPost_ret (res_dd _ _ rfl rfl rfl xa xb) rfl ⟨t, p, u, q, rfl, (((BB.setCell (by simp) _).setCell (by simp) _).setCell (by simp) _).setCell (by simp) _⟩)
  · have hr1 : RdI (v2.alloc (.cells ([(0 : Int), 1, 4, 15, 16].map (Value.int .i64)).toArray 3)) (some ⟨v2.heap.size, 0, none⟩) 5 [0, 1, 4, 15, 16] := RdI.of_cells (heap_alloc_new _ _)
    have hcb := Hc.out.below ((Below.refl v2.heap.size v2).alloc (Nat.le_refl _) (.cells ([(0 : Int), 1, 4, 15, 16].map (Value.int .i64)).toArray 3))
    have HA := Lib.hid (c_among (some ⟨v2.heap.size, 0, none⟩) 5 [0, 1, 4, 15, 16] (by decide) (by decide) (w.heap.size + 1 + 1) (fun b off e => by injection e with e; injection e with e; omega) A n c bs (0 + 10 + 2) (v2.alloc (.cells ([(0 : Int), 1, 4, 15, 16].map (Value.int .i64)).toArray 3)).drew (hr1.q ⟨1, rfl⟩) (hcb.same rfl) (by omega) (by omega))
    have z0 := Z.out.1
    have z1 := Z.out.2.1
    have ZA : Hid (Bx (v2.alloc (.cells ([(0 : Int), 1, 4, 15, 16].map (Value.int .i64)).toArray 3)).drew g5 t p) := Lib.hid ((Z.out.below ((Below.refl _ _).alloc (Nat.le_refl _) (.cells ([(0 : Int), 1, 4, 15, 16].map (Value.int .i64)).toArray 3))).keep rfl)
    have RA2 : Hid (Bx (v2.alloc (.cells ([(0 : Int), 1, 4, 15, 16].map (Value.int .i64)).toArray 3)).drew w.heap.size 0 0) := Lib.hid ((R2.out.below ((Below.refl _ _).alloc (Nat.le_refl _) (.cells ([(0 : Int), 1, 4, 15, 16].map (Value.int .i64)).toArray 3))).keep rfl)
    have RA3 : Hid (Bx (v2.alloc (.cells ([(0 : Int), 1, 4, 15, 16].map (Value.int .i64)).toArray 3)).drew (w.heap.size + 1) 0 0) := Lib.hid ((R3.out.below ((Below.refl _ _).alloc (Nat.le_refl _) (.cells ([(0 : Int), 1, 4, 15, 16].map (Value.int .i64)).toArray 3))).keep rfl)
    have BA : Hid (Below w.heap.size w (v2.alloc (.cells ([(0 : Int), 1, 4, 15, 16].map (Value.int .i64)).toArray 3)).drew) := Lib.hid (by
      have h := B.out.alloc B.out.size (.cells ([(0 : Int), 1, 4, 15, 16].map (Value.int .i64)).toArray 3)
      exact ⟨h.os, h.tape, h.output, h.size, h.block⟩)
    have l1 : ¬ g5 = w.heap.size := by omega
    have l2 : ¬ g5 = w.heap.size + 1 := by omega
    have hx : ¬ v2.heap.size = g5 := by omega
    have hx2 : ¬ g5 = v2.heap.size := by omega
    clear Z R2 R3 B Hc hr1 hcb
    go_upto_region 4 with fail
    go_region_held3 (fun w' => w'.cell? ⟨g5, 0, none⟩ = some (.int .i64 t) ∧ w'.cell? ⟨g5, 1, none⟩ = some (.int .i64 p)) (simp [go_sem, *])
      (first
        | (go_at_call 61; refine HA.out.mono ?_; rintro e v3 ⟨z, rfl, hz, hc3, gr3⟩; have zz := ZA.out.grown gr3 (fun e => by have := Option.some.inj e; omega); have za := RA2.out.grown gr3 (fun e => by have := Option.some.inj e; omega); have zb := RA3.out.grown gr3 (fun e => by have := Option.some.inj e; omega); have BB : Below w.heap.size w v3 := BA.out.grown gr3 BA.out.size (fun k hk => by have := Option.some.inj hk; omega); have y0 := zz.1; have y1 := zz.2.1; obtain ⟨k, rfl, hk16⟩ := mem5 hz)
        | (go_at_call 48; refine (s_l2Make 1 k _ (by decide) (by decide) (by omega)).mono ?_; rintro e v4 ⟨rfl, b⟩; have zz := zz.below b; have za := za.below b; have zb := zb.below b; have BB := Below.next BB b; have y0 := zz.1; have y1 := zz.2.1; have hab := red_abs 1 k 1 (by decide) (by decide); have hle := red_le 1 k; generalize red 1 k = R at *)
        | (go_at_call 53; refine (s_l2Add_any t p _ _ _ t0 t1 p0 p1 (by omega) (by omega) (by omega) (by omega)).mono ?_; rintro e v5 ⟨rfl, b⟩; have zz := zz.below b; have za := za.below b; have zb := zb.below b; have BB := Below.next BB b; have y0 := zz.1; have y1 := zz.2.1; have a0 := za.1; have a1 := za.2.1; have af := za.2.2; have b0 := zb.1; have b1 := zb.2.1; have bf := zb.2.2; generalize red (ss t p + ss R.1 R.2) 24 = S at *; obtain ⟨u, q⟩ := S))
    all_goals
      go_wp2_with fail
      first
        | (have xa := (((za.set0 t).set1 p).other (b' := w.heap.size + 1) (by omega) 0 (.int .i64 u)).other (b' := w.heap.size + 1) (by omega) 1 (.int .i64 (q : Int))
           have xb := (((zb.other (b' := w.heap.size) (by omega) 0 (.int .i64 t)).other (b' := w.heap.size) (by omega) 1 (.int .i64 p)).set0 u).set1 (q : Int)
           exact bodyPost_ret (res_dd _ _ rfl rfl rfl xa xb) rfl ⟨t, p, u, (q : Int), rfl, (((BB.setCell (by simp) _).setCell (by simp) _).setCell (by simp) _).setCell (by simp) _⟩)
        | (have xb := (((zb.set0 u).set1 (q : Int)).other (b' := w.heap.size) (by omega) 0 (.int .i64 t)).other (b' := w.heap.size) (by omega) 1 (.int .i64 p)
           have xa := (((za.other (b' := w.heap.size + 1) (by omega) 0 (.int .i64 u)).other (b' := w.heap.size + 1) (by omega) 1 (.int .i64 (q : Int))).set0 t).set1 p
           exact bodyPost_ret (res_dd _ _ rfl rfl rfl xa xb) rfl ⟨t, p, u, (q : Int), rfl, (((BB.setCell (by simp) _).setCell (by simp) _).setCell (by simp) _).setCell (by simp) _⟩)
end Go.Proofs.Ytbfabnpcahinfaa
