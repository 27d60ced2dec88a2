/- Draws: a dyadic number that may not be good, and two of them. -/
import Derived.Test.YtaifelcocnnkjaaDoorDyP
namespace Go.Proofs.YtaifelcocnnkjaaDoor
open Go.RowKit

/-- Block b holds a dyadic number. -/
def Bx (w : World) (b : Nat) (t p : Int) : Prop :=
  w.cell? ⟨b, 0, none⟩ = some (.int .i64 t) ∧ w.cell? ⟨b, 1, none⟩ = some (.int .i64 p) ∧ ∀ o, w.frozen? ⟨b, o, none⟩ = false
theorem Bx.lt {w : World} {b : Nat} {t p : Int} (h : Bx w b t p) : b < w.heap.size := cell_lt h.1
theorem Bx.keep {w w' : World} {b : Nat} {t p : Int} (h : Bx w b t p) (hb : w'.heap[b]? = w.heap[b]?) : Bx w' b t p :=
  ⟨(World.cell?_of_block (a := ⟨b, 0, none⟩) hb).trans h.1, (World.cell?_of_block (a := ⟨b, 1, none⟩) hb).trans h.2.1, fun o => (World.frozen?_of_block (a := ⟨b, o, none⟩) hb).trans (h.2.2 o)⟩
theorem Bx.grown {w w' : World} {b : Nat} {t p : Int} {row : Option Nat} (h : Bx w b t p) (hg : w.grownBy w' row) (hne : row ≠ some b) : Bx w' b t p :=
  h.keep (hg.block b h.lt (Ne.symm hne))
theorem Bx.below {w w' : World} {b : Nat} {t p : Int} (h : Bx w b t p) (hb : Below w.heap.size w w') : Bx w' b t p := h.keep (hb.block b h.lt)
theorem Bx.new (w : World) (t p : Int) (T : TypeId) : Bx (w.alloc (.cells #[.int .i64 t, .int .i64 p] T)) w.heap.size t p :=
  ⟨by simp [go_sem], by simp [go_sem], fun o => by simp [go_sem]⟩
theorem Bx.other {w : World} {b b' : Nat} {t p : Int} (h : Bx w b t p) (hne : b ≠ b') (i : Nat) (u : Value) : Bx (w.setCell ⟨b', i, none⟩ u) b t p :=
  h.keep (Below.heap_setCell w _ u b hne)
theorem Bx.set0 {w : World} {b : Nat} {t p : Int} (h : Bx w b t p) (y : Int) : Bx (w.setCell ⟨b, 0, none⟩ (.int .i64 y)) b y p :=
  ⟨World.cell?_setCell_same _ _ _ h.1, (World.cell?_setCell_other _ _ _ _ (by simp)).trans h.2.1, fun o => (World.frozen?_setCell _ _ _ _).trans (h.2.2 o)⟩
theorem Bx.set1 {w : World} {b : Nat} {t p : Int} (h : Bx w b t p) (y : Int) : Bx (w.setCell ⟨b, 1, none⟩ (.int .i64 y)) b t y :=
  ⟨(World.cell?_setCell_other _ _ _ _ (by simp)).trans h.1, World.cell?_setCell_same _ _ _ h.2.1, fun o => (World.frozen?_setCell _ _ _ _).trans (h.2.2 o)⟩
/-- What stands behind the switch. -/
def AnyI (w : World) (g b1 : Nat) (A : Option Addr) (n c : Nat) (bs : List Int) (m : Int) (wx : World) : Prop :=
  ∃ t p : Int, -1000001 ≤ t ∧ t ≤ 1000001 ∧ -1 ≤ p ∧ p ≤ 17 ∧ Bx wx w.heap.size 0 0 ∧ Bx wx b1 t p ∧ Cur wx g A n c bs m ∧ w.grownBy wx (some g)
theorem any_fin {w w' : World} {g : Nat} {A : Option Addr} {n c : Nat} {bs : List Int} {m m' : Int} (gne : g < w.heap.size) (hold : 0 < n → ∀ b off, A = some ⟨b, off, none⟩ → b < w.heap.size)
    (Hc : Cur w' g A n c bs m') (G : w.grownBy w' (some g)) (hm : m' ≤ m) (y q : Int) (hy : -1000001 ≤ y ∧ y ≤ 1000001 ∧ -1 ≤ q ∧ q ≤ 17) :
    DyP w g A n c bs m (.returned (dv y q)) ((w'.setCell ⟨w.heap.size, 0, none⟩ (.int .i64 y)).setCell ⟨w.heap.size, 1, none⟩ (.int .i64 q)) := by
  refine ⟨y, q, rfl, hy.1, hy.2.1, hy.2.2.1, hy.2.2.2, ?_, grown_setnew (grown_setnew G (Nat.le_refl _) 0 _) (Nat.le_refl _) 1 _⟩
  exact ((Hc.set (by omega) (fun h0 b' off e => by have := hold h0 b' off e; omega) 0 _).set (by omega) (fun h0 b' off e => by have := hold h0 b' off e; omega) 1 _).more hm
set_option maxHeartbeats 4000000 in
theorem c_anyDyadic (g : Nat) (A : Option Addr) (n c : Nat) (bs : List Int) (m : Int) (w : World) (hc : Cur w g A n c bs m) (hm : m ≤ 800000000000) (hn : n ≤ 1099511627776) :
    Calls Tryd.prog 73 #[.pointer (some ⟨g, 0, none⟩)] w (DyP w g A n c bs (m + 10)) := by
  have HOld := Lib.hid hc.old
  have gne : g < w.heap.size := hc.lt
  go_enter Tryd.func73, Tryd.ntmps73
  go_wp2_with fail
  refine (c_dyadic g A n c bs _ _ (hc.below ((Below.refl _ _).alloc (Nat.le_refl _) _)) (by omega) hn).mono ?_
  rintro e w1 ⟨t, p, rfl, t0, t1, p0, p1, hc1, gr1⟩
  have hs1 : w.heap.size + 1 ≤ w1.heap.size := by have := gr1.size; simpa using this
  have R1 := Lib.hid ((Bx.new w 0 0 _).grown gr1 (fun e => by have := Option.some.inj e; omega))
  have G1 := Lib.hid (grown_trans (World.grownBy_alloc w (.cells #[.int .i64 0, .int .i64 0] 41) (some g)) gr1)
  have Hc1 := Lib.hid hc1
  clear gr1 hc1
  go_wp2_with fail
  refine (c_pick 20 g A n c bs _ _ (Hc1.out.below ((Below.refl _ _).alloc (Nat.le_refl _) _)) (by omega) hn (by decide) (by decide)).mono ?_
  rintro e w2 ⟨k, rfl, k0, k1, hc2, gr2⟩
  have hs2 : w1.heap.size + 1 ≤ w2.heap.size := by have := gr2.size; simpa using this
  have R2 := Lib.hid (((R1.out.below ((Below.refl _ _).alloc (Nat.le_refl _) (.cells #[.int .i64 t, .int .i64 p] 41))).grown gr2 (fun e => by have := Option.some.inj e; omega)))
  have B2 := Lib.hid ((Bx.new w1 t p _).grown gr2 (fun e => by have := Option.some.inj e; omega))
  have G2 := Lib.hid (grown_trans (grown_trans G1.out (World.grownBy_alloc w1 (.cells #[.int .i64 t, .int .i64 p] 41) (some g))) gr2)
  have Hc2 := Lib.hid hc2
  have hb1 : w.heap.size < w1.heap.size := by omega
  generalize w1.heap.size = b1 at *
  clear gr2 hc2 R1 G1 Hc1
  have hw2 : b1 < w2.heap.size := by omega
  by_cases e0 : k = 0
  · subst e0
    have hr1 : RdI (w2.alloc (.cells ([(1000000 : Int), -1000000, 1000001, -1000001, 999999].map (Value.int .i64)).toArray 3)) (some ⟨w2.heap.size, 0, none⟩) 5 [1000000, -1000000, 1000001, -1000001, 999999] := RdI.of_cells (heap_alloc_new _ _)
    have HA := Lib.hid (c_among (some ⟨w2.heap.size, 0, none⟩) 5 [1000000, -1000000, 1000001, -1000001, 999999] (by decide) (by decide) g (fun b off e => by injection e with e; injection e with e; omega) A n c bs _ _ hr1 (Hc2.out.below ((Below.refl _ _).alloc (Nat.le_refl _) _)) (by omega) hn)
    clear hr1
    go_wp2_with fail
    refine HA.out.mono ?_
    rintro e w3 ⟨y, rfl, hy, hcn, grn⟩
    have Rn := Lib.hid ((R2.out.below ((Below.refl _ _).alloc (Nat.le_refl _) (.cells ([(1000000 : Int), -1000000, 1000001, -1000001, 999999].map (Value.int .i64)).toArray 3))).grown grn (fun e => by have := Option.some.inj e; omega))
    have Bn := Lib.hid ((B2.out.below ((Below.refl _ _).alloc (Nat.le_refl _) (.cells ([(1000000 : Int), -1000000, 1000001, -1000001, 999999].map (Value.int .i64)).toArray 3))).grown grn (fun e => by have := Option.some.inj e; omega))
    have Gn := Lib.hid (grown_trans (grown_trans G2.out (World.grownBy_alloc w2 (.cells ([(1000000 : Int), -1000000, 1000001, -1000001, 999999].map (Value.int .i64)).toArray 3) (some g))) grn)
    have Hcn := Lib.hid hcn
    have hsn : w2.heap.size ≤ w3.heap.size := by have := grn.size; simp at this; omega
    clear hcn grn HA
    have hy : -1000001 ≤ y ∧ y ≤ 1000001 := by
      simp only [List.mem_cons, List.not_mem_nil, or_false] at hy
      omega
    clear R2 B2 G2 Hc2
    obtain ⟨z0, z1, zf⟩ := Bn.out
    obtain ⟨r0, r1, rf⟩ := Rn.out
    go_wp2_with fail
    have RR := (Rn.out.other (b' := b1) (by omega) 0 (.int .i64 y))
    refine bodyPost_ret (res_dv _ _ rfl rfl (two_set RR.1 RR.2.1).1 (two_set RR.1 RR.2.1).2) rfl (any_fin gne HOld.out (Hcn.out.set (by omega) (fun h0 b' off e => by have := HOld.out h0 b' off e; omega) 0 _) (grown_setnew Gn.out (by omega) 0 _) (by omega) _ _ ⟨hy.1, hy.2, p0, p1⟩)
  by_cases e1 : k = 1
  · subst e1
    have hr1 : RdI (w2.alloc (.cells ([(-1 : Int), 16, 17].map (Value.int .i64)).toArray 3)) (some ⟨w2.heap.size, 0, none⟩) 3 [-1, 16, 17] := RdI.of_cells (heap_alloc_new _ _)
    have HA := Lib.hid (c_among (some ⟨w2.heap.size, 0, none⟩) 3 [-1, 16, 17] (by decide) (by decide) g (fun b off e => by injection e with e; injection e with e; omega) A n c bs _ _ hr1 (Hc2.out.below ((Below.refl _ _).alloc (Nat.le_refl _) _)) (by omega) hn)
    clear hr1
    go_wp2_with fail
    refine HA.out.mono ?_
    rintro e w3 ⟨y, rfl, hy, hcn, grn⟩
    have Rn := Lib.hid ((R2.out.below ((Below.refl _ _).alloc (Nat.le_refl _) (.cells ([(-1 : Int), 16, 17].map (Value.int .i64)).toArray 3))).grown grn (fun e => by have := Option.some.inj e; omega))
    have Bn := Lib.hid ((B2.out.below ((Below.refl _ _).alloc (Nat.le_refl _) (.cells ([(-1 : Int), 16, 17].map (Value.int .i64)).toArray 3))).grown grn (fun e => by have := Option.some.inj e; omega))
    have Gn := Lib.hid (grown_trans (grown_trans G2.out (World.grownBy_alloc w2 (.cells ([(-1 : Int), 16, 17].map (Value.int .i64)).toArray 3) (some g))) grn)
    have Hcn := Lib.hid hcn
    have hsn : w2.heap.size ≤ w3.heap.size := by have := grn.size; simp at this; omega
    clear hcn grn HA
    have hy : -1 ≤ y ∧ y ≤ 17 := by
      simp only [List.mem_cons, List.not_mem_nil, or_false] at hy
      omega
    clear R2 B2 G2 Hc2
    obtain ⟨z0, z1, zf⟩ := Bn.out
    obtain ⟨r0, r1, rf⟩ := Rn.out
    go_wp2_with fail
    have RR := (Rn.out.other (b' := b1) (by omega) 1 (.int .i64 y))
    refine bodyPost_ret (res_dv _ _ rfl rfl (two_set RR.1 RR.2.1).1 (two_set RR.1 RR.2.1).2) rfl (any_fin gne HOld.out (Hcn.out.set (by omega) (fun h0 b' off e => by have := HOld.out h0 b' off e; omega) 1 _) (grown_setnew Gn.out (by omega) 1 _) (by omega) _ _ ⟨t0, t1, hy.1, hy.2⟩)
  by_cases e2 : k = 2
  · subst e2
    go_wp2_with fail
    refine (c_pick 4 g A n c bs _ _ Hc2.out (by omega) hn (by decide) (by decide)).mono ?_
    rintro e w3 ⟨y, rfl, ya, yb, hcn, grn⟩
    have R3 := Lib.hid (R2.out.grown grn (fun e => by have := Option.some.inj e; omega))
    have B3 := Lib.hid (B2.out.grown grn (fun e => by have := Option.some.inj e; omega))
    have G3 := Lib.hid (grown_trans G2.out grn)
    have Hc3 := Lib.hid hcn
    have hs3 : w2.heap.size ≤ w3.heap.size := by have := grn.size; omega
    clear hcn grn
    clear R2 B2 G2 Hc2
    go_wp2_with fail
    refine (c_pick 3 g A n c bs _ _ Hc3.out (by omega) hn (by decide) (by decide)).mono ?_
    rintro e w4 ⟨z, rfl, za, zb, hcn, grn⟩
    have Rn := Lib.hid (R3.out.grown grn (fun e => by have := Option.some.inj e; omega))
    have Bn := Lib.hid (B3.out.grown grn (fun e => by have := Option.some.inj e; omega))
    have Gn := Lib.hid (grown_trans G3.out grn)
    have Hcn := Lib.hid hcn
    have hsn : w2.heap.size ≤ w4.heap.size := by have := grn.size; omega
    clear hcn grn
    clear R3 B3 G3 Hc3
    obtain ⟨z0, z1, zf⟩ := Bn.out
    obtain ⟨r0, r1, rf⟩ := Rn.out
    go_wp2_with fail
    have RR := ((Rn.out.other (b' := b1) (by omega) 0 (.int .i64 (2 * y))).other (b' := b1) (by omega) 1 (.int .i64 (1 + z)))
    refine bodyPost_ret (res_dv _ _ rfl rfl (two_set RR.1 RR.2.1).1 (two_set RR.1 RR.2.1).2) rfl (any_fin gne HOld.out ((Hcn.out.set (by omega) (fun h0 b' off e => by have := HOld.out h0 b' off e; omega) 0 _).set (by omega) (fun h0 b' off e => by have := HOld.out h0 b' off e; omega) 1 _) (grown_setnew (grown_setnew Gn.out (by omega) 0 _) (by omega) 1 _) (by omega) _ _ ⟨by omega, by omega, by omega, by omega⟩)
  by_cases e3 : k = 3
  · subst e3
    go_wp2_with fail
    refine (c_pick 400 g A n c bs _ _ Hc2.out (by omega) hn (by decide) (by decide)).mono ?_
    rintro e w3 ⟨y, rfl, ya, yb, hcn, grn⟩
    have R3 := Lib.hid (R2.out.grown grn (fun e => by have := Option.some.inj e; omega))
    have B3 := Lib.hid (B2.out.grown grn (fun e => by have := Option.some.inj e; omega))
    have G3 := Lib.hid (grown_trans G2.out grn)
    have Hc3 := Lib.hid hcn
    have hs3 : w2.heap.size ≤ w3.heap.size := by have := grn.size; omega
    clear hcn grn
    clear R2 B2 G2 Hc2
    have hr1 : RdI (w3.alloc (.cells ([(14 : Int), 15, 16].map (Value.int .i64)).toArray 3)) (some ⟨w3.heap.size, 0, none⟩) 3 [14, 15, 16] := RdI.of_cells (heap_alloc_new _ _)
    have HA := Lib.hid (c_among (some ⟨w3.heap.size, 0, none⟩) 3 [14, 15, 16] (by decide) (by decide) g (fun b off e => by injection e with e; injection e with e; omega) A n c bs _ _ hr1 (Hc3.out.below ((Below.refl _ _).alloc (Nat.le_refl _) _)) (by omega) hn)
    clear hr1
    go_wp2_with fail
    refine HA.out.mono ?_
    rintro e w4 ⟨z, rfl, hz, hcn, grn⟩
    have Rn := Lib.hid ((R3.out.below ((Below.refl _ _).alloc (Nat.le_refl _) (.cells ([(14 : Int), 15, 16].map (Value.int .i64)).toArray 3))).grown grn (fun e => by have := Option.some.inj e; omega))
    have Bn := Lib.hid ((B3.out.below ((Below.refl _ _).alloc (Nat.le_refl _) (.cells ([(14 : Int), 15, 16].map (Value.int .i64)).toArray 3))).grown grn (fun e => by have := Option.some.inj e; omega))
    have Gn := Lib.hid (grown_trans (grown_trans G3.out (World.grownBy_alloc w3 (.cells ([(14 : Int), 15, 16].map (Value.int .i64)).toArray 3) (some g))) grn)
    have Hcn := Lib.hid hcn
    have hsn : w2.heap.size ≤ w4.heap.size := by have := grn.size; simp at this; omega
    clear hcn grn HA
    obtain ⟨z, rfl⟩ : ∃ z' : Nat, z = (z' : Int) := by
      simp only [List.mem_cons, List.not_mem_nil, or_false] at hz
      exact Int.eq_ofNat_of_zero_le (by omega)
    have hz5 : z ≤ 16 := by
      simp only [List.mem_cons, List.not_mem_nil, or_false] at hz
      omega
    clear R3 B3 G3 Hc3 hz
    have hM := Lib.hid (fun w => s_l2Make (y * 2 + 1) z w (by omega) (by omega) (by omega))
    have hab := red_abs 1000 z (y * 2 + 1) (by omega) (by omega)
    have hle := red_le (y * 2 + 1) z
    generalize red (y * 2 + 1) z = Q at *
    go_wp2_with fail
    refine (hM.out _).mono ?_
    rintro e w5 ⟨rfl, b5⟩
    have Rq := Lib.hid (Rn.out.below b5)
    have Bq := Lib.hid (Bn.out.below b5)
    have Gq := Lib.hid (grown_trans Gn.out (grown_belowW w4 (some g) b5))
    have Hcq := Lib.hid (Hcn.out.below b5)
    clear b5 Rn Bn Gn Hcn
    obtain ⟨z0, z1, zf⟩ := Bq.out
    obtain ⟨r0, r1, rf⟩ := Rq.out
    go_wp2_with fail
    have RR := ((Rq.out.other (b' := b1) (by omega) 0 (.int .i64 Q.1)).other (b' := b1) (by omega) 1 (.int .i64 Q.2))
    refine bodyPost_ret (res_dv _ _ rfl rfl (two_set RR.1 RR.2.1).1 (two_set RR.1 RR.2.1).2) rfl (any_fin gne HOld.out ((Hcq.out.set (by omega) (fun h0 b' off e => by have := HOld.out h0 b' off e; omega) 0 _).set (by omega) (fun h0 b' off e => by have := HOld.out h0 b' off e; omega) 1 _) (grown_setnew (grown_setnew Gq.out (by omega) 0 _) (by omega) 1 _) (by omega) _ _ ⟨by omega, by omega, by omega, by omega⟩)
  · have e0' : (k == 0) = false := by simpa using e0
    have e1' : (k == 1) = false := by simpa using e1
    have e2' : (k == 2) = false := by simpa using e2
    have e3' : (k == 3) = false := by simpa using e3
    obtain ⟨z0, z1, zf⟩ := B2.out
    obtain ⟨r0, r1, rf⟩ := R2.out
    go_wp2_with fail
    have RR := R2.out
    refine bodyPost_ret (res_dv _ _ rfl rfl (two_set RR.1 RR.2.1).1 (two_set RR.1 RR.2.1).2) rfl (any_fin gne HOld.out Hc2.out G2.out (by omega) _ _ ⟨t0, t1, p0, p1⟩)
end Go.Proofs.YtaifelcocnnkjaaDoor
