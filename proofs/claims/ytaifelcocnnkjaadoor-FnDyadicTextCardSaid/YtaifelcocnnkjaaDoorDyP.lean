/- Draws of dyadic numbers. -/
import Derived.Test.YtaifelcocnnkjaaDoorDyF
import Derived.Test.YtaifelcocnnkjaaDoorCurN
namespace Go.Proofs.YtaifelcocnnkjaaDoor
open Go.RowKit

theorem RdI.of_cells {w : World} {b : Nat} {t : TypeId} {xs : List Int} (h : w.heap[b]? = some (.cells (xs.map (Value.int .i64)).toArray t (0, 0))) : RdI w (some ⟨b, 0, none⟩) xs.length xs := by
  refine ⟨by simp, fun _ => ⟨b, 0, rfl, fun i u hu => ?_⟩⟩
  simp [World.cell?, h] at hu ⊢
  exact hu
/-- A drawn number that lies in bounds. -/
def DyP0 (w : World) (g : Nat) (A : Option Addr) (n c : Nat) (bs : List Int) (m : Int) (e : Ending) (w' : World) : Prop :=
  ∃ t p : Int, e = .returned (dv t p) ∧ -1000001 ≤ t ∧ t ≤ 1000001 ∧ 0 ≤ p ∧ p ≤ 16 ∧ Cur w' g A n c bs m ∧ w.grownBy w' (some g)
/-- A drawn number. -/
def DyP (w : World) (g : Nat) (A : Option Addr) (n c : Nat) (bs : List Int) (m : Int) (e : Ending) (w' : World) : Prop :=
  ∃ t p : Int, e = .returned (dv t p) ∧ -1000001 ≤ t ∧ t ≤ 1000001 ∧ -1 ≤ p ∧ p ≤ 17 ∧ Cur w' g A n c bs m ∧ w.grownBy w' (some g)
theorem grown_setnew {a w : World} {row : Option Nat} {b : Nat} (h : a.grownBy w row) (hb : a.heap.size ≤ b) (i : Nat) (u : Value) : a.grownBy (w.setCell ⟨b, i, none⟩ u) row :=
  ⟨h.os, h.tape, h.output, by simpa [World.setCell] using h.size, fun k hk hne => (Below.heap_setCell w _ u k (by show k ≠ b; omega)).trans (h.block k hk hne)⟩
theorem Cur.other {w w' : World} {g : Nat} {A : Option Addr} {n c : Nat} {bs : List Int} {m : Int} {row : Option Nat} (h : Cur w g A n c bs m) (hg : w.grownBy w' row) (h1 : row ≠ some g) (h2 : 0 < n → ∀ b off, A = some ⟨b, off, none⟩ → row ≠ some b) : Cur w' g A n c bs m := by
  have hlt := h.lt
  obtain ⟨⟨at', seed, hh, r⟩, hr, hf, hne⟩ := h
  refine ⟨⟨at', seed, (hg.block g hlt (Ne.symm h1)).trans hh, r⟩, ⟨hr.1, fun hn => ?_⟩, hf, hne⟩
  obtain ⟨b, off, hA, hb, hc⟩ := hr.at_ hn
  exact ⟨b, off, hA, fun i u hu => (World.cell?_of_block (a := ⟨b, off + i, none⟩) (hg.block b hb (Ne.symm (h2 hn b off hA)))).trans (hc i u hu)⟩
theorem Cur.old {w : World} {g : Nat} {A : Option Addr} {n c : Nat} {bs : List Int} {m : Int} (h : Cur w g A n c bs m) : 0 < n → ∀ b off, A = some ⟨b, off, none⟩ → b < w.heap.size := fun h0 b off e => by
  obtain ⟨b', off', hA, hb, _⟩ := h.2.1.at_ h0
  rw [hA] at e
  injection e with e
  injection e with e1
  omega
theorem Cur.set {w : World} {g : Nat} {A : Option Addr} {n c : Nat} {bs : List Int} {m : Int} {b : Nat} (h : Cur w g A n c bs m) (hg : g ≠ b) (hA : 0 < n → ∀ b' off, A = some ⟨b', off, none⟩ → b' ≠ b) (i : Nat) (u : Value) : Cur (w.setCell ⟨b, i, none⟩ u) g A n c bs m :=
  h.other (grown_set (World.grownBy.refl _ _) i u) (fun e => hg (Option.some.inj e).symm) (fun h0 b' off e e2 => hA h0 b' off e (Option.some.inj e2).symm)
theorem grown_belowW (w : World) {w' : World} (row : Option Nat) (hb : Below w.heap.size w w') : w.grownBy w' row := ⟨hb.os, hb.tape, hb.output, hb.size, fun k hk _ => hb.block k hk⟩
theorem red_abs (B : Int) : ∀ (p : Nat) (t : Int), -B ≤ t → t ≤ B → -B ≤ (red t p).1 ∧ (red t p).1 ≤ B
  | 0, t, h1, h2 => by rw [red_zero]; exact ⟨h1, h2⟩
  | p + 1, t, h1, h2 => by
    by_cases e : t.tmod 2 = 0
    · rw [red_even e]
      have := Int.tmod_add_mul_tdiv t 2
      exact red_abs B p (t.tdiv 2) (by omega) (by omega)
    · rw [red_odd e]; exact ⟨h1, h2⟩
set_option maxHeartbeats 1000000 in
theorem c_dyadic0 (g : Nat) (A : Option Addr) (n c : Nat) (bs : List Int) (m : Int) (w : World) (hc : Cur w g A n c bs m) (hm : m ≤ 900000000000) (hn : n ≤ 1099511627776) :
    Calls Tryd.prog 47 #[.pointer (some ⟨g, 0, none⟩)] w (DyP0 w g A n c bs (m + 4)) := by
  have HOld := Lib.hid hc.old
  go_enter Tryd.func47, Tryd.ntmps47
  go_wp2_with fail
  refine (c_pick 41 g A n c bs _ _ (hc.below ((Below.refl _ _).alloc (Nat.le_refl _) _)) (by omega) hn (by decide) (by decide)).mono ?_
  rintro e w1 ⟨x, rfl, x0, x1, hc1, gr1⟩
  have gne : g < w.heap.size := hc.lt
  have hs1 := gr1.size
  have hs1 : w.heap.size + 1 ≤ w1.heap.size := by simpa using hs1
  have hr1 : RdI (w1.alloc (.cells ([(0 : Int), 0, 1, 2, 3, 5].map (Value.int .i64)).toArray 3)) (some ⟨w1.heap.size, 0, none⟩) 6 [0, 0, 1, 2, 3, 5] := RdI.of_cells (heap_alloc_new _ _)
  have HA := Lib.hid (c_among (some ⟨w1.heap.size, 0, none⟩) 6 [0, 0, 1, 2, 3, 5] (by decide) (by decide) g (fun b off e => by injection e with e; injection e with e; omega) A n c bs _ _ hr1 (hc1.below ((Below.refl _ _).alloc (Nat.le_refl _) _)) (by omega) hn)
  have G1 := Lib.hid (grown_trans (World.grownBy_alloc w (.cells #[.int .i64 0, .int .i64 0] 41) (some g)) gr1)
  have k0 : w1.cell? ⟨w.heap.size, 0, none⟩ = some (.int .i64 0) := gr1.cell (a := ⟨w.heap.size, 0, none⟩) (by simp [go_sem]) (fun e => by have := Option.some.inj (show some w.heap.size = some g from e); omega)
  have k1 : w1.cell? ⟨w.heap.size, 1, none⟩ = some (.int .i64 0) := gr1.cell (a := ⟨w.heap.size, 1, none⟩) (by simp [go_sem]) (fun e => by have := Option.some.inj (show some w.heap.size = some g from e); omega)
  have kf : ∀ o, w1.frozen? ⟨w.heap.size, o, none⟩ = false := fun o => (World.frozen?_of_block (a := ⟨w.heap.size, o, none⟩) (gr1.block w.heap.size (by simp) (fun e => by have := Option.some.inj e; omega))).trans (by simp [go_sem])
  have K0 := Lib.hid k0
  have K1 := Lib.hid k1
  have KF := Lib.hid kf
  clear hr1 hc1 gr1 k0 k1 kf
  go_wp2_with fail
  refine HA.out.mono ?_
  rintro e w2 ⟨y, rfl, hy, hc2, gr2⟩
  obtain ⟨y, rfl⟩ : ∃ z : Nat, y = (z : Int) := by
    simp only [List.mem_cons, List.not_mem_nil, or_false] at hy
    exact Int.eq_ofNat_of_zero_le (by omega)
  have hy5 : y ≤ 5 := by
    simp only [List.mem_cons, List.not_mem_nil, or_false] at hy
    omega
  have hs2 : w1.heap.size + 1 ≤ w2.heap.size := by have := gr2.size; simpa using this
  have k0 : w2.cell? ⟨w.heap.size, 0, none⟩ = some (.int .i64 0) := gr2.cell (a := ⟨w.heap.size, 0, none⟩) (alloc_keep _ K0.out) (fun e => by have := Option.some.inj (show some w.heap.size = some g from e); omega)
  have k1 : w2.cell? ⟨w.heap.size, 1, none⟩ = some (.int .i64 0) := gr2.cell (a := ⟨w.heap.size, 1, none⟩) (alloc_keep _ K1.out) (fun e => by have := Option.some.inj (show some w.heap.size = some g from e); omega)
  have kf : ∀ o, w2.frozen? ⟨w.heap.size, o, none⟩ = false := fun o => (World.frozen?_of_block (a := ⟨w.heap.size, o, none⟩) (gr2.block w.heap.size (by simp; omega) (fun e => by have := Option.some.inj e; omega))).trans (((bcell ((Below.refl w1.heap.size w1).alloc (Nat.le_refl _) _)).2 _ _ (by omega)).trans (KF.out o))
  have K2 := Lib.hid k0
  have K3 := Lib.hid k1
  have KG := Lib.hid kf
  have G2 := Lib.hid (grown_trans G1.out (grown_trans (World.grownBy_alloc w1 _ (some g)) gr2))
  have Hc2 := Lib.hid hc2
  have hM := Lib.hid (fun w => s_l2Make (x - 20) y w (by omega) (by omega) (by omega))
  have hab := red_abs 20 y (x - 20) (by omega) (by omega)
  have hle := red_le (x - 20) y
  generalize red (x - 20) y = R at *
  clear k0 k1 kf hy gr2 hc2 HA
  go_wp2_with fail
  refine (hM.out _).mono ?_
  rintro e w3 ⟨rfl, b3⟩
  have z0 := bkeep b3 _ _ K2.out
  have z1 := bkeep b3 _ _ K3.out
  have zf : ∀ o, w3.frozen? ⟨w.heap.size, o, none⟩ = false := fun o => ((bcell b3).2 _ _ (cell_lt K2.out)).trans (KG.out o)
  have B3 := Lib.hid b3
  clear b3
  go_wp2_with fail
  refine bodyPost_ret (res_dv _ _ rfl rfl (two_set z0 z1).1 (two_set z0 z1).2) rfl ⟨R.1, R.2, rfl, by omega, by omega, by omega, by omega, ?_, ?_⟩
  · have hcf := (Hc2.out.below B3.out)
    exact ((hcf.set (by omega) (fun h0 b' off e => by have := HOld.out h0 b' off e; omega) 0 _).set (by omega) (fun h0 b' off e => by have := HOld.out h0 b' off e; omega) 1 _).more (by omega)
  · exact grown_setnew (grown_setnew (grown_trans G2.out (grown_belowW w2 (some g) B3.out)) (Nat.le_refl _) 0 _) (Nat.le_refl _) 1 _
theorem c_dyadic (g : Nat) (A : Option Addr) (n c : Nat) (bs : List Int) (m : Int) (w : World) (hc : Cur w g A n c bs m) (hm : m ≤ 900000000000) (hn : n ≤ 1099511627776) :
    Calls Tryd.prog 47 #[.pointer (some ⟨g, 0, none⟩)] w (DyP w g A n c bs (m + 4)) :=
  (c_dyadic0 g A n c bs m w hc hm hn).mono fun _ _ ⟨t, p, e, h1, h2, h3, h4, k⟩ => ⟨t, p, e, h1, h2, by omega, by omega, k⟩
end Go.Proofs.YtaifelcocnnkjaaDoor
