/- Reading a dyadic number's text, by the program. -/
import Derived.Test.YtaifelcocnnkjaaDoorNtM
import Derived.Test.YtaifelcocnnkjaaDoorDv
namespace Go.Proofs.YtaifelcocnnkjaaDoor
open Go.RowKit

/-- What a reading leaves. -/
def ReadP (s : ByteArray) (w : World) (e : Ending) (w' : World) : Prop := ∃ (t p : Int) (ok : Bool), e = .returned (.tuple #[dv t p, .bool ok]) ∧ ReadOk s t p ok ∧ Below w.heap.size w w'
theorem isdy_len {s : ByteArray} {t p : Int} (h : IsDy s t p) : s.size ≤ 20 := by
  have hr := isdy_rng h
  have hb := pw_rng hr.2.2.2
  have e : s.data.toList.length = s.size := by simp
  have h1 := (itoa_len (n := t) (by omega) (by omega)).1
  have h2 := (itoa_len hb.1 hb.2).1
  by_cases hp : p = 0
  · subst hp
    rw [isdy_list0 h] at e
    omega
  · rw [isdy_list1 h hp, List.length_append, List.length_cons] at e
    omega
theorem bl2 (w : World) (o o' : Obj) (n : Nat) : Below w.heap.size w (((w.alloc o).drewN n).alloc o') :=
  (Below.next (by go_grown : Below w.heap.size w (w.alloc o)) (Q.below ⟨n, rfl⟩)).alloc (by simp) o'

set_option maxHeartbeats 1600000 in
theorem c_read_long (s : ByteArray) (w : World) (h20 : ¬ s.size ≤ 20) :
    Calls Tryd.prog 20 #[.string s] w (ReadP s w) := by
  have fin := Lib.hid (read_no (s := s) (fun t p h => h20 (isdy_len h)))
  have hs1 : (20 : Int) < (s.size : Int) := by omega
  clear h20
  go_enter Tryd.func20, Tryd.ntmps20
  go_wp2_with fail
  have k0 : (w.alloc (.cells #[.int .i64 0, .int .i64 0] 41)).cell? ⟨w.heap.size, 0, none⟩ = some (.int .i64 0) := by simp [go_sem]
  have k1 : (w.alloc (.cells #[.int .i64 0, .int .i64 0] 41)).cell? ⟨w.heap.size, 1, none⟩ = some (.int .i64 0) := by simp [go_sem]
  have B : Below w.heap.size w (w.alloc (.cells #[.int .i64 0, .int .i64 0] 41)) := by go_grown
  exact bodyPost_ret (res_rv _ _ rfl rfl rfl k0 k1) rfl ⟨_, _, _, rfl, fin.out, B⟩
set_option maxHeartbeats 3200000 in
theorem c_read_whole (s : ByteArray) (w : World) (h20 : s.size ≤ 20) (hi : Lib.indexByte s.data.toList 47 = -1) (ht : Tab w) (hv : SynV w) (hr : RngV w) :
    Calls Tryd.prog 20 #[.string s] w (ReadP s w) := by
  have hs1 : ¬ (20 : Int) < (s.size : Int) := by omega
  have hw := Lib.hid (fun (t p : Int) (h : IsDy s t p) => isdy_whole hi h)
  have HC := Lib.hid (fun w => C_cut_no s w hi)
  by_cases hok : ∃ v, Lib.atoiAll s.data.toList = .ok v
  · obtain ⟨v, hok⟩ := hok
    have HA := Lib.hid (a_ok s v (by omega) hok)
    have hu : Hid (∀ t p, IsDy s t p → t = v ∧ p = 0) := Lib.hid (fun t p h => by
      have := hw.out t p h
      rw [hok] at this
      injection this.2 with e
      exact ⟨e.symm, this.1⟩)
    clear hok hi hw
    go_enter Tryd.func20, Tryd.ntmps20
    go_wp2_with fail
    refine (HC.out _).mono ?_
    rintro e w0 ⟨rfl, n, rfl⟩
    go_wp2_with fail
    refine (HA.out _).mono ?_
    rintro e w1 ⟨rfl, b1⟩
    have k0 : w1.cell? ⟨w.heap.size, 0, none⟩ = some (.int .i64 0) := bkeep b1 _ _ (by simp [go_sem])
    have k1 : w1.cell? ⟨w.heap.size, 1, none⟩ = some (.int .i64 0) := bkeep b1 _ _ (by simp [go_sem])
    have x0 : w1.cell? ⟨w.heap.size + 1, 0, none⟩ = some (.int .i64 0) := bkeep b1 _ _ (by simp [go_sem])
    have x1 : w1.cell? ⟨w.heap.size + 1, 1, none⟩ = some (.int .i64 0) := bkeep b1 _ _ (by simp [go_sem])
    have f0 : ∀ o, w1.frozen? ⟨w.heap.size, o, none⟩ = false := fun o => ((bcell b1).2 _ _ (by simp <;> omega)).trans (by simp [go_sem])
    have f1 : ∀ o, w1.frozen? ⟨w.heap.size + 1, o, none⟩ = false := fun o => ((bcell b1).2 _ _ (by simp <;> omega)).trans (by simp [go_sem])
    have B1 := Lib.hid (Below.next (bl2 _ _ _ _) b1)
    clear b1
    have q0 : (w1.setCell ⟨w.heap.size + 1, 0, none⟩ (.int .i64 v)).cell? ⟨w.heap.size, 0, none⟩ = some (.int .i64 0) := setCell_keep k0 (by simp)
    have q1 : (w1.setCell ⟨w.heap.size + 1, 0, none⟩ (.int .i64 v)).cell? ⟨w.heap.size, 1, none⟩ = some (.int .i64 0) := setCell_keep k1 (by simp)
    have u0 : (w1.setCell ⟨w.heap.size + 1, 0, none⟩ (.int .i64 v)).cell? ⟨w.heap.size + 1, 0, none⟩ = some (.int .i64 v) := World.cell?_setCell_same _ _ _ x0
    have u1 : (w1.setCell ⟨w.heap.size + 1, 0, none⟩ (.int .i64 v)).cell? ⟨w.heap.size + 1, 1, none⟩ = some (.int .i64 0) := setCell_keep x1 (by simp)
    have fr : ∀ b o, (w1.setCell ⟨w.heap.size + 1, 0, none⟩ (.int .i64 v)).frozen? ⟨b, o, none⟩ = w1.frozen? ⟨b, o, none⟩ := fun b o => by simp [go_sem]
    have g0 : ∀ o, (w1.setCell ⟨w.heap.size + 1, 0, none⟩ (.int .i64 v)).frozen? ⟨w.heap.size, o, none⟩ = false := fun o => (fr _ o).trans (f0 o)
    have g1 : ∀ o, (w1.setCell ⟨w.heap.size + 1, 0, none⟩ (.int .i64 v)).frozen? ⟨w.heap.size + 1, o, none⟩ = false := fun o => (fr _ o).trans (f1 o)
    have B2 : Hid (Below w.heap.size w (w1.setCell ⟨w.heap.size + 1, 0, none⟩ (.int .i64 v))) := Lib.hid (B1.out.setCell (by simp) _)
    cases hg : gd v 0
    · have hd : dyT v 0 = (ByteArray.empty, false) := by unfold dyT; rw [hg]; rfl
      have fin := Lib.hid (read_bad hu.out hg)
      clear hg
      have HT := Lib.hid (fun w h => c_DyadicText v 0 w h)
      rw [hd] at HT
      clear hd
      go_wp2_with fail
      refine (HT.out _ (ht.below B2.out)).mono ?_
      rintro e w5 ⟨rfl, b5⟩
      have y0 := bkeep b5 _ _ q0
      have y1 := bkeep b5 _ _ q1
      have z0 := bkeep b5 _ _ u0
      have z1 := bkeep b5 _ _ u1
      have e0 : ∀ o, w5.frozen? ⟨w.heap.size, o, none⟩ = false := fun o => ((bcell b5).2 _ _ (cell_lt q0)).trans (g0 o)
      have BB := Lib.hid (Below.next B2.out b5)
      clear b5
      go_wp2_with fail
      exact bodyPost_ret (res_rv _ _ rfl rfl rfl (two_set y0 y1).1 (two_set y0 y1).2) rfl ⟨_, _, _, rfl, fin.out, (BB.out.setCell (by simp) _).setCell (by simp) _⟩
    · have hd : dyT v 0 = (dyB v 0, true) := by unfold dyT; rw [hg]; rfl
      by_cases he : dyB v 0 = s
      · have fin := Lib.hid (read_yes hg he)
        have hz2 : ((dyB v 0).toList == s.toList) = true := by simp [he]
        generalize dyB v 0 = Z at *
        clear hg he
        have HT := Lib.hid (fun w h => c_DyadicText v 0 w h)
        rw [hd] at HT
        clear hd
        go_wp2_with fail
        refine (HT.out _ (ht.below B2.out)).mono ?_
        rintro e w5 ⟨rfl, b5⟩
        have y0 := bkeep b5 _ _ q0
        have y1 := bkeep b5 _ _ q1
        have z0 := bkeep b5 _ _ u0
        have z1 := bkeep b5 _ _ u1
        have e0 : ∀ o, w5.frozen? ⟨w.heap.size, o, none⟩ = false := fun o => ((bcell b5).2 _ _ (cell_lt q0)).trans (g0 o)
        have BB := Lib.hid (Below.next B2.out b5)
        clear b5
        go_wp2_with fail
        exact bodyPost_ret (res_rv _ _ rfl rfl rfl (two_set y0 y1).1 (two_set y0 y1).2) rfl ⟨_, _, _, rfl, fin.out, (BB.out.setCell (by simp) _).setCell (by simp) _⟩
      · have fin := Lib.hid (read_other hu.out he)
        have hz2 := str_ne he
        generalize dyB v 0 = Z at *
        clear hg he
        have HT := Lib.hid (fun w h => c_DyadicText v 0 w h)
        rw [hd] at HT
        clear hd
        go_wp2_with fail
        refine (HT.out _ (ht.below B2.out)).mono ?_
        rintro e w5 ⟨rfl, b5⟩
        have y0 := bkeep b5 _ _ q0
        have y1 := bkeep b5 _ _ q1
        have z0 := bkeep b5 _ _ u0
        have z1 := bkeep b5 _ _ u1
        have e0 : ∀ o, w5.frozen? ⟨w.heap.size, o, none⟩ = false := fun o => ((bcell b5).2 _ _ (cell_lt q0)).trans (g0 o)
        have BB := Lib.hid (Below.next B2.out b5)
        clear b5
        go_wp2_with fail
        exact bodyPost_ret (res_rv _ _ rfl rfl rfl (two_set y0 y1).1 (two_set y0 y1).2) rfl ⟨_, _, _, rfl, fin.out, (BB.out.setCell (by simp) _).setCell (by simp) _⟩
  · have hno : ∀ v, ¬ Lib.atoiAll s.data.toList = .ok v := fun v h => hok ⟨v, h⟩
    have HA := Lib.hid (a_no s (by omega) hno)
    have fin := Lib.hid (read_no (s := s) (fun t p h => hno t (hw.out t p h).2))
    clear hok hno hi hw
    go_enter Tryd.func20, Tryd.ntmps20
    go_wp2_with fail
    refine (HC.out _).mono ?_
    rintro e w0 ⟨rfl, n, rfl⟩
    go_wp2_with fail
    refine (HA.out _ (hv.below (bl2 _ _ _ _)) (hr.below (bl2 _ _ _ _))).mono ?_
    rintro e w1 ⟨x, N, rfl, b1⟩
    have k0 : w1.cell? ⟨w.heap.size, 0, none⟩ = some (.int .i64 0) := bkeep b1 _ _ (by simp [go_sem])
    have k1 : w1.cell? ⟨w.heap.size, 1, none⟩ = some (.int .i64 0) := bkeep b1 _ _ (by simp [go_sem])
    have x0 : w1.cell? ⟨w.heap.size + 1, 0, none⟩ = some (.int .i64 0) := bkeep b1 _ _ (by simp [go_sem])
    have x1 : w1.cell? ⟨w.heap.size + 1, 1, none⟩ = some (.int .i64 0) := bkeep b1 _ _ (by simp [go_sem])
    have f0 : ∀ o, w1.frozen? ⟨w.heap.size, o, none⟩ = false := fun o => ((bcell b1).2 _ _ (by simp <;> omega)).trans (by simp [go_sem])
    have f1 : ∀ o, w1.frozen? ⟨w.heap.size + 1, o, none⟩ = false := fun o => ((bcell b1).2 _ _ (by simp <;> omega)).trans (by simp [go_sem])
    have B1 := Lib.hid (Below.next (bl2 _ _ _ _) b1)
    clear b1
    go_wp2_with fail
    exact bodyPost_ret (res_rv _ _ rfl rfl rfl (two_set k0 k1).1 (two_set k0 k1).2) rfl ⟨_, _, _, rfl, fin.out, (B1.out.setCell (by simp) _).setCell (by simp) _⟩
set_option maxHeartbeats 3200000 in
theorem c_read_split (s : ByteArray) (i : Nat) (w : World) (h20 : s.size ≤ 20) (hi : Lib.indexByte s.data.toList 47 = (i : Int)) (hlt : i < s.size) (ht : Tab w) (hv : SynV w) (hr : RngV w) :
    Calls Tryd.prog 20 #[.string s] w (ReadP s w) := by
  have hs1 : ¬ (20 : Int) < (s.size : Int) := by omega
  have hw := Lib.hid (fun (t p : Int) (h : IsDy s t p) => isdy_split_atoi hi h)
  have hw2 := Lib.hid (fun (t p : Int) (h : IsDy s t p) => isdy_rng h)
  have HC := Lib.hid (fun w => C_cut_hit s i w hi hlt (by omega))
  obtain ⟨fs, hfs⟩ : ∃ fs, s.extract 0 i = fs := ⟨_, rfl⟩
  obtain ⟨sd, hsd⟩ : ∃ sd, s.extract (i + 1) s.size = sd := ⟨_, rfl⟩
  have z1 : fs.size ≤ 20 := by rw [← hfs]; simp; omega
  have z2 : sd.size ≤ 20 := by rw [← hsd]; simp; omega
  rw [hfs, hsd] at HC hw
  clear hi hlt hfs hsd
  by_cases hok : ∃ v, Lib.atoiAll fs.data.toList = .ok v
  · obtain ⟨v, hok⟩ := hok
    have HA := Lib.hid (a_ok fs v (by omega) hok)
    by_cases hok2 : ∃ b, Lib.atoiAll sd.data.toList = .ok b
    · obtain ⟨b, hok2⟩ := hok2
      have HA2 := Lib.hid (a_ok sd b (by omega) hok2)
      have hbd := Lib.atoiAll_bounds hok2
      have hu : Hid (∀ t p, IsDy s t p → t = v ∧ b = 2 ^ p.toNat ∧ 0 ≤ p ∧ p ≤ 16) := Lib.hid (fun t p h => by
        have h1 := hw.out t p h
        have h2 := hw2.out t p h
        rw [hok, hok2] at h1
        obtain ⟨h1, h3⟩ := h1
        injection h1 with e
        injection h3 with e'
        exact ⟨e.symm, e', h2.2.2.1, h2.2.2.2⟩)
      clear hok hok2 hw hw2 z1 z2
      go_enter Tryd.func20, Tryd.ntmps20
      go_wp2_with fail
      refine (HC.out _).mono ?_
      rintro e w0 ⟨rfl, n, rfl⟩
      go_wp2_with fail
      refine (HA.out _).mono ?_
      rintro e w1 ⟨rfl, b1⟩
      have k0 : w1.cell? ⟨w.heap.size, 0, none⟩ = some (.int .i64 0) := bkeep b1 _ _ (by simp [go_sem])
      have k1 : w1.cell? ⟨w.heap.size, 1, none⟩ = some (.int .i64 0) := bkeep b1 _ _ (by simp [go_sem])
      have x0 : w1.cell? ⟨w.heap.size + 1, 0, none⟩ = some (.int .i64 0) := bkeep b1 _ _ (by simp [go_sem])
      have x1 : w1.cell? ⟨w.heap.size + 1, 1, none⟩ = some (.int .i64 0) := bkeep b1 _ _ (by simp [go_sem])
      have f0 : ∀ o, w1.frozen? ⟨w.heap.size, o, none⟩ = false := fun o => ((bcell b1).2 _ _ (by simp <;> omega)).trans (by simp [go_sem])
      have f1 : ∀ o, w1.frozen? ⟨w.heap.size + 1, o, none⟩ = false := fun o => ((bcell b1).2 _ _ (by simp <;> omega)).trans (by simp [go_sem])
      have B1 := Lib.hid (Below.next (bl2 _ _ _ _) b1)
      clear b1
      have q0 : (w1.setCell ⟨w.heap.size + 1, 0, none⟩ (.int .i64 v)).cell? ⟨w.heap.size, 0, none⟩ = some (.int .i64 0) := setCell_keep k0 (by simp)
      have q1 : (w1.setCell ⟨w.heap.size + 1, 0, none⟩ (.int .i64 v)).cell? ⟨w.heap.size, 1, none⟩ = some (.int .i64 0) := setCell_keep k1 (by simp)
      have u0 : (w1.setCell ⟨w.heap.size + 1, 0, none⟩ (.int .i64 v)).cell? ⟨w.heap.size + 1, 0, none⟩ = some (.int .i64 v) := World.cell?_setCell_same _ _ _ x0
      have u1 : (w1.setCell ⟨w.heap.size + 1, 0, none⟩ (.int .i64 v)).cell? ⟨w.heap.size + 1, 1, none⟩ = some (.int .i64 0) := setCell_keep x1 (by simp)
      have fr : ∀ b o, (w1.setCell ⟨w.heap.size + 1, 0, none⟩ (.int .i64 v)).frozen? ⟨b, o, none⟩ = w1.frozen? ⟨b, o, none⟩ := fun b o => by simp [go_sem]
      have g0 : ∀ o, (w1.setCell ⟨w.heap.size + 1, 0, none⟩ (.int .i64 v)).frozen? ⟨w.heap.size, o, none⟩ = false := fun o => (fr _ o).trans (f0 o)
      have g1 : ∀ o, (w1.setCell ⟨w.heap.size + 1, 0, none⟩ (.int .i64 v)).frozen? ⟨w.heap.size + 1, o, none⟩ = false := fun o => (fr _ o).trans (f1 o)
      have B2 : Hid (Below w.heap.size w (w1.setCell ⟨w.heap.size + 1, 0, none⟩ (.int .i64 v))) := Lib.hid (B1.out.setCell (by simp) _)
      go_wp2_with fail
      clear k0 k1 x0 x1 f0 f1 fr
      refine (HA2.out _).mono ?_
      rintro e w2 ⟨rfl, b2⟩
      have k0 := bkeep b2 _ _ q0
      have k1 := bkeep b2 _ _ q1
      have x0 := bkeep b2 _ _ u0
      have x1 := bkeep b2 _ _ u1
      have f0 : ∀ o, w2.frozen? ⟨w.heap.size, o, none⟩ = false := fun o => ((bcell b2).2 _ _ (cell_lt q0)).trans (g0 o)
      have f1 : ∀ o, w2.frozen? ⟨w.heap.size + 1, o, none⟩ = false := fun o => ((bcell b2).2 _ _ (cell_lt u0)).trans (g1 o)
      have B3 := Lib.hid (Below.next B2.out b2)
      clear q0 q1 u0 u1 g0 g1 b2 B2
      go_wp2_with fail
      go_loopg [44] 16 (fun m _ wr => ∃ k : Nat, k ≤ 16 ∧ m = 16 - k ∧ Hid (∀ j, j < k → (2 : Int) ^ j < b) ∧ wr.cell? ⟨w.heap.size, 0, none⟩ = some (.int .i64 0) ∧ wr.cell? ⟨w.heap.size, 1, none⟩ = some (.int .i64 0) ∧ wr.cell? ⟨w.heap.size + 1, 0, none⟩ = some (.int .i64 v) ∧ wr.cell? ⟨w.heap.size + 1, 1, none⟩ = some (.int .i64 (k : Int)) ∧ (∀ o, wr.frozen? ⟨w.heap.size, o, none⟩ = false) ∧ (∀ o, wr.frozen? ⟨w.heap.size + 1, o, none⟩ = false) ∧ Below w.heap.size w wr)
      case atStart => exact ⟨0, by omega, rfl, Lib.hid (fun j h => absurd h (Nat.not_lt_zero j)), k0, k1, x0, x1, f0, f1, B3.out⟩
      case round =>
        clear k0 k1 x0 x1 f0 f1 B3 B1
        obtain ⟨k, hk, rfl, hall, k0, k1, x0, x1, f0, f1, B3⟩ := hrel
        have B3 := Lib.hid B3
        have hp := pw_bd (p := (k : Int)) (by omega)
        rw [Int.toNat_natCast] at hp
        obtain ⟨X, hX⟩ : ∃ X, X = (2 : Int) ^ k := ⟨_, rfl⟩
        rw [← hX] at hp
        have hw1 : wrap64 (2 ^ min k 64) = X := by rw [Nat.min_eq_left (by omega), ← hX]; exact IntWalk.wrap64_in _ ⟨by omega, by omega⟩
        have hw0 : wrap64 (2 ^ k) = X := by rw [← hX]; exact IntWalk.wrap64_in _ ⟨by omega, by omega⟩
        by_cases hk16 : k < 16
        · by_cases hXb : X < b
          · have hall2 : Hid (∀ j, j < k + 1 → (2 : Int) ^ j < b) := Lib.hid (fun j hj => by
              rcases Nat.lt_or_ge j k with h | h
              · exact hall.out j h
              · obtain rfl : j = k := by omega
                omega)
            clear hX hall
            go_wp2_with fail
            go_roundg (16 - (k + 1))
            case measure => omega
            case rel => exact ⟨k + 1, by omega, rfl, hall2, setCell_keep k0 (by simp), setCell_keep k1 (by simp), setCell_keep x0 (by simp), World.cell?_setCell_same _ _ _ x1, fun o => by simp [go_sem, f0], fun o => by simp [go_sem, f1], B3.out.setCell (by simp) _⟩
          · have hu2 : Hid (∀ t p, IsDy s t p → t = v ∧ p = (k : Int)) := Lib.hid (fun t p h => by
              obtain ⟨e1, e2, e3, e4⟩ := hu.out t p h
              have := loop_fin e2 (by omega) hk hall.out (.inr (by omega))
              exact ⟨e1, by omega⟩)
            clear hX hall hu
            cases hg : gd v (k : Int)
            · have hd : dyT v (k : Int) = (ByteArray.empty, false) := by unfold dyT; rw [hg]; rfl
              have fin := Lib.hid (read_bad hu2.out hg)
              clear hg
              have HT := Lib.hid (fun w h => c_DyadicText v (k : Int) w h)
              rw [hd] at HT
              clear hd
              go_wp2_with fail
              refine (HT.out _ (ht.below B3.out)).mono ?_
              rintro e w5 ⟨rfl, b5⟩
              have y0 := bkeep b5 _ _ k0
              have y1 := bkeep b5 _ _ k1
              have z0 := bkeep b5 _ _ x0
              have z1 := bkeep b5 _ _ x1
              have e0 : ∀ o, w5.frozen? ⟨w.heap.size, o, none⟩ = false := fun o => ((bcell b5).2 _ _ (cell_lt k0)).trans (f0 o)
              have BB := Lib.hid (Below.next B3.out b5)
              clear b5
              go_wp2_with fail
              exact bodyPost_ret (res_rv _ _ rfl rfl rfl (two_set y0 y1).1 (two_set y0 y1).2) rfl ⟨_, _, _, rfl, fin.out, (BB.out.setCell (by simp) _).setCell (by simp) _⟩
            · have hd : dyT v (k : Int) = (dyB v (k : Int), true) := by unfold dyT; rw [hg]; rfl
              by_cases he : dyB v (k : Int) = s
              · have fin := Lib.hid (read_yes hg he)
                have hz2 : ((dyB v (k : Int)).toList == s.toList) = true := by simp [he]
                generalize dyB v (k : Int) = Z at *
                clear hg he
                have HT := Lib.hid (fun w h => c_DyadicText v (k : Int) w h)
                rw [hd] at HT
                clear hd
                go_wp2_with fail
                refine (HT.out _ (ht.below B3.out)).mono ?_
                rintro e w5 ⟨rfl, b5⟩
                have y0 := bkeep b5 _ _ k0
                have y1 := bkeep b5 _ _ k1
                have z0 := bkeep b5 _ _ x0
                have z1 := bkeep b5 _ _ x1
                have e0 : ∀ o, w5.frozen? ⟨w.heap.size, o, none⟩ = false := fun o => ((bcell b5).2 _ _ (cell_lt k0)).trans (f0 o)
                have BB := Lib.hid (Below.next B3.out b5)
                clear b5
                go_wp2_with fail
                exact bodyPost_ret (res_rv _ _ rfl rfl rfl (two_set y0 y1).1 (two_set y0 y1).2) rfl ⟨_, _, _, rfl, fin.out, (BB.out.setCell (by simp) _).setCell (by simp) _⟩
              · have fin := Lib.hid (read_other hu2.out he)
                have hz2 := str_ne he
                generalize dyB v (k : Int) = Z at *
                clear hg he
                have HT := Lib.hid (fun w h => c_DyadicText v (k : Int) w h)
                rw [hd] at HT
                clear hd
                go_wp2_with fail
                refine (HT.out _ (ht.below B3.out)).mono ?_
                rintro e w5 ⟨rfl, b5⟩
                have y0 := bkeep b5 _ _ k0
                have y1 := bkeep b5 _ _ k1
                have z0 := bkeep b5 _ _ x0
                have z1 := bkeep b5 _ _ x1
                have e0 : ∀ o, w5.frozen? ⟨w.heap.size, o, none⟩ = false := fun o => ((bcell b5).2 _ _ (cell_lt k0)).trans (f0 o)
                have BB := Lib.hid (Below.next B3.out b5)
                clear b5
                go_wp2_with fail
                exact bodyPost_ret (res_rv _ _ rfl rfl rfl (two_set y0 y1).1 (two_set y0 y1).2) rfl ⟨_, _, _, rfl, fin.out, (BB.out.setCell (by simp) _).setCell (by simp) _⟩
        · have hu2 : Hid (∀ t p, IsDy s t p → t = v ∧ p = (k : Int)) := Lib.hid (fun t p h => by
            obtain ⟨e1, e2, e3, e4⟩ := hu.out t p h
            have := loop_fin e2 (by omega) hk hall.out (.inl (by omega))
            exact ⟨e1, by omega⟩)
          clear hX hall hu
          cases hg : gd v (k : Int)
          · have hd : dyT v (k : Int) = (ByteArray.empty, false) := by unfold dyT; rw [hg]; rfl
            have fin := Lib.hid (read_bad hu2.out hg)
            clear hg
            have HT := Lib.hid (fun w h => c_DyadicText v (k : Int) w h)
            rw [hd] at HT
            clear hd
            go_wp2_with fail
            refine (HT.out _ (ht.below B3.out)).mono ?_
            rintro e w5 ⟨rfl, b5⟩
            have y0 := bkeep b5 _ _ k0
            have y1 := bkeep b5 _ _ k1
            have z0 := bkeep b5 _ _ x0
            have z1 := bkeep b5 _ _ x1
            have e0 : ∀ o, w5.frozen? ⟨w.heap.size, o, none⟩ = false := fun o => ((bcell b5).2 _ _ (cell_lt k0)).trans (f0 o)
            have BB := Lib.hid (Below.next B3.out b5)
            clear b5
            go_wp2_with fail
            exact bodyPost_ret (res_rv _ _ rfl rfl rfl (two_set y0 y1).1 (two_set y0 y1).2) rfl ⟨_, _, _, rfl, fin.out, (BB.out.setCell (by simp) _).setCell (by simp) _⟩
          · have hd : dyT v (k : Int) = (dyB v (k : Int), true) := by unfold dyT; rw [hg]; rfl
            by_cases he : dyB v (k : Int) = s
            · have fin := Lib.hid (read_yes hg he)
              have hz2 : ((dyB v (k : Int)).toList == s.toList) = true := by simp [he]
              generalize dyB v (k : Int) = Z at *
              clear hg he
              have HT := Lib.hid (fun w h => c_DyadicText v (k : Int) w h)
              rw [hd] at HT
              clear hd
              go_wp2_with fail
              refine (HT.out _ (ht.below B3.out)).mono ?_
              rintro e w5 ⟨rfl, b5⟩
              have y0 := bkeep b5 _ _ k0
              have y1 := bkeep b5 _ _ k1
              have z0 := bkeep b5 _ _ x0
              have z1 := bkeep b5 _ _ x1
              have e0 : ∀ o, w5.frozen? ⟨w.heap.size, o, none⟩ = false := fun o => ((bcell b5).2 _ _ (cell_lt k0)).trans (f0 o)
              have BB := Lib.hid (Below.next B3.out b5)
              clear b5
              go_wp2_with fail
              exact bodyPost_ret (res_rv _ _ rfl rfl rfl (two_set y0 y1).1 (two_set y0 y1).2) rfl ⟨_, _, _, rfl, fin.out, (BB.out.setCell (by simp) _).setCell (by simp) _⟩
            · have fin := Lib.hid (read_other hu2.out he)
              have hz2 := str_ne he
              generalize dyB v (k : Int) = Z at *
              clear hg he
              have HT := Lib.hid (fun w h => c_DyadicText v (k : Int) w h)
              rw [hd] at HT
              clear hd
              go_wp2_with fail
              refine (HT.out _ (ht.below B3.out)).mono ?_
              rintro e w5 ⟨rfl, b5⟩
              have y0 := bkeep b5 _ _ k0
              have y1 := bkeep b5 _ _ k1
              have z0 := bkeep b5 _ _ x0
              have z1 := bkeep b5 _ _ x1
              have e0 : ∀ o, w5.frozen? ⟨w.heap.size, o, none⟩ = false := fun o => ((bcell b5).2 _ _ (cell_lt k0)).trans (f0 o)
              have BB := Lib.hid (Below.next B3.out b5)
              clear b5
              go_wp2_with fail
              exact bodyPost_ret (res_rv _ _ rfl rfl rfl (two_set y0 y1).1 (two_set y0 y1).2) rfl ⟨_, _, _, rfl, fin.out, (BB.out.setCell (by simp) _).setCell (by simp) _⟩
    · have hno : ∀ v, ¬ Lib.atoiAll sd.data.toList = .ok v := fun v h => hok2 ⟨v, h⟩
      have HA2 := Lib.hid (a_no sd (by omega) hno)
      have fin := Lib.hid (read_no (s := s) (fun t p h => hno _ (hw.out t p h).2))
      clear hok hok2 hno hw hw2
      go_enter Tryd.func20, Tryd.ntmps20
      go_wp2_with fail
      refine (HC.out _).mono ?_
      rintro e w0 ⟨rfl, n, rfl⟩
      go_wp2_with fail
      refine (HA.out _).mono ?_
      rintro e w1 ⟨rfl, b1⟩
      have k0 : w1.cell? ⟨w.heap.size, 0, none⟩ = some (.int .i64 0) := bkeep b1 _ _ (by simp [go_sem])
      have k1 : w1.cell? ⟨w.heap.size, 1, none⟩ = some (.int .i64 0) := bkeep b1 _ _ (by simp [go_sem])
      have x0 : w1.cell? ⟨w.heap.size + 1, 0, none⟩ = some (.int .i64 0) := bkeep b1 _ _ (by simp [go_sem])
      have x1 : w1.cell? ⟨w.heap.size + 1, 1, none⟩ = some (.int .i64 0) := bkeep b1 _ _ (by simp [go_sem])
      have f0 : ∀ o, w1.frozen? ⟨w.heap.size, o, none⟩ = false := fun o => ((bcell b1).2 _ _ (by simp <;> omega)).trans (by simp [go_sem])
      have f1 : ∀ o, w1.frozen? ⟨w.heap.size + 1, o, none⟩ = false := fun o => ((bcell b1).2 _ _ (by simp <;> omega)).trans (by simp [go_sem])
      have B1 := Lib.hid (Below.next (bl2 _ _ _ _) b1)
      clear b1
      have q0 : (w1.setCell ⟨w.heap.size + 1, 0, none⟩ (.int .i64 v)).cell? ⟨w.heap.size, 0, none⟩ = some (.int .i64 0) := setCell_keep k0 (by simp)
      have q1 : (w1.setCell ⟨w.heap.size + 1, 0, none⟩ (.int .i64 v)).cell? ⟨w.heap.size, 1, none⟩ = some (.int .i64 0) := setCell_keep k1 (by simp)
      have u0 : (w1.setCell ⟨w.heap.size + 1, 0, none⟩ (.int .i64 v)).cell? ⟨w.heap.size + 1, 0, none⟩ = some (.int .i64 v) := World.cell?_setCell_same _ _ _ x0
      have u1 : (w1.setCell ⟨w.heap.size + 1, 0, none⟩ (.int .i64 v)).cell? ⟨w.heap.size + 1, 1, none⟩ = some (.int .i64 0) := setCell_keep x1 (by simp)
      have fr : ∀ b o, (w1.setCell ⟨w.heap.size + 1, 0, none⟩ (.int .i64 v)).frozen? ⟨b, o, none⟩ = w1.frozen? ⟨b, o, none⟩ := fun b o => by simp [go_sem]
      have g0 : ∀ o, (w1.setCell ⟨w.heap.size + 1, 0, none⟩ (.int .i64 v)).frozen? ⟨w.heap.size, o, none⟩ = false := fun o => (fr _ o).trans (f0 o)
      have g1 : ∀ o, (w1.setCell ⟨w.heap.size + 1, 0, none⟩ (.int .i64 v)).frozen? ⟨w.heap.size + 1, o, none⟩ = false := fun o => (fr _ o).trans (f1 o)
      have B2 : Hid (Below w.heap.size w (w1.setCell ⟨w.heap.size + 1, 0, none⟩ (.int .i64 v))) := Lib.hid (B1.out.setCell (by simp) _)
      go_wp2_with fail
      clear k0 k1 x0 x1 f0 f1 fr
      refine (HA2.out _ (hv.below B2.out) (hr.below B2.out)).mono ?_
      rintro e w2 ⟨x, N, rfl, b2⟩
      have k0 := bkeep b2 _ _ q0
      have k1 := bkeep b2 _ _ q1
      have f0 : ∀ o, w2.frozen? ⟨w.heap.size, o, none⟩ = false := fun o => ((bcell b2).2 _ _ (cell_lt q0)).trans (g0 o)
      have B3 := Lib.hid (Below.next B2.out b2)
      clear b2
      go_wp2_with fail
      exact bodyPost_ret (res_rv _ _ rfl rfl rfl (two_set k0 k1).1 (two_set k0 k1).2) rfl ⟨_, _, _, rfl, fin.out, (B3.out.setCell (by simp) _).setCell (by simp) _⟩
  · have hno : ∀ v, ¬ Lib.atoiAll fs.data.toList = .ok v := fun v h => hok ⟨v, h⟩
    have HA := Lib.hid (a_no fs (by omega) hno)
    have fin := Lib.hid (read_no (s := s) (fun t p h => hno _ (hw.out t p h).1))
    clear hok hno hw hw2
    go_enter Tryd.func20, Tryd.ntmps20
    go_wp2_with fail
    refine (HC.out _).mono ?_
    rintro e w0 ⟨rfl, n, rfl⟩
    go_wp2_with fail
    refine (HA.out _ (hv.below (bl2 _ _ _ _)) (hr.below (bl2 _ _ _ _))).mono ?_
    rintro e w1 ⟨x, N, rfl, b1⟩
    have k0 : w1.cell? ⟨w.heap.size, 0, none⟩ = some (.int .i64 0) := bkeep b1 _ _ (by simp [go_sem])
    have k1 : w1.cell? ⟨w.heap.size, 1, none⟩ = some (.int .i64 0) := bkeep b1 _ _ (by simp [go_sem])
    have x0 : w1.cell? ⟨w.heap.size + 1, 0, none⟩ = some (.int .i64 0) := bkeep b1 _ _ (by simp [go_sem])
    have x1 : w1.cell? ⟨w.heap.size + 1, 1, none⟩ = some (.int .i64 0) := bkeep b1 _ _ (by simp [go_sem])
    have f0 : ∀ o, w1.frozen? ⟨w.heap.size, o, none⟩ = false := fun o => ((bcell b1).2 _ _ (by simp <;> omega)).trans (by simp [go_sem])
    have f1 : ∀ o, w1.frozen? ⟨w.heap.size + 1, o, none⟩ = false := fun o => ((bcell b1).2 _ _ (by simp <;> omega)).trans (by simp [go_sem])
    have B1 := Lib.hid (Below.next (bl2 _ _ _ _) b1)
    clear b1
    go_wp2_with fail
    exact bodyPost_ret (res_rv _ _ rfl rfl rfl (two_set k0 k1).1 (two_set k0 k1).2) rfl ⟨_, _, _, rfl, fin.out, (B1.out.setCell (by simp) _).setCell (by simp) _⟩
theorem c_ReadDyadic (s : ByteArray) (w : World) (ht : Tab w) (hv : SynV w) (hr : RngV w) :
    Calls Tryd.prog 20 #[.string s] w (ReadP s w) := by
  by_cases h20 : s.size ≤ 20
  · by_cases hi : Lib.indexByte s.data.toList 47 = -1
    · exact c_read_whole s w h20 hi ht hv hr
    · obtain ⟨i, hi⟩ : ∃ i : Nat, Lib.indexByte s.data.toList 47 = i := by
        have := Lib.indexByte_ge s.data.toList 47
        exact Int.eq_ofNat_of_zero_le (by omega)
      exact c_read_split s i w h20 hi (idx_lt (Lib.indexByte_some hi).1) ht hv hr
  · exact c_read_long s w h20
end Go.Proofs.YtaifelcocnnkjaaDoor
