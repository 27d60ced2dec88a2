/- Draws: texts of numbers, some spoilt; a top and a power; a number. -/
import Derived.Test.YtaifelcocnnkjaaDoorDtA
namespace Go.Proofs.YtaifelcocnnkjaaDoor
open Go.RowKit

theorem grown_newD {w w' : World} {o : Obj} (gr : (w.alloc o).grownBy w' (some w.heap.size)) : Below w.heap.size w w' :=
  ((Below.refl _ _).alloc (Nat.le_refl _) _).grown gr (by simp) (fun k hk => by injection hk with hk; omega)
theorem below_grD {W w w' : World} (h : Below W.heap.size W w) (gr : w.grownBy w' (some W.heap.size)) : Below W.heap.size W w' :=
  h.grown gr h.size (fun k hk => by injection hk with hk; omega)
def TextD (k : Nat) (w : World) (e : Ending) (w' : World) : Prop := ∃ s : ByteArray, e = .returned (.string s) ∧ s.size ≤ k ∧ Below w.heap.size w w'
theorem short101 (xs : List ByteArray) (h : xs.all (fun x => decide (x.size ≤ 101)) = true) : ∀ x ∈ xs, x.size ≤ 101 := fun x hx => by
  simpa using List.all_eq_true.1 h x hx
theorem dyB_sz {t p : Int} (h1 : -1000001 ≤ t) (h2 : t ≤ 1000001) (h3 : p ≤ 16) : 1 ≤ (dyB t p).size ∧ (dyB t p).size ≤ 100 := by
  have e : (dyB t p).data.toList.length = (dyB t p).size := by simp
  have hb := pw_rng h3
  have a1 := (itoa_len (n := t) (by omega) (by omega)).1
  have a2 := (itoa_len hb.1 hb.2).1
  have a3 := itoa_ne t
  by_cases hp : p = 0
  · subst hp
    rw [dyB_list0] at e
    omega
  · rw [dyB_list1 hp, List.length_append, List.length_cons] at e
    omega
set_option maxHeartbeats 1600000 in
theorem c_DrawReadDyadic (A : Option Addr) (n c : Nat) (bs : List Int) (w : World) (hc : Code8 w A n bs) :
    Calls Tryd.prog 19 #[.slice A n c] w (TextD 101 w) := by
  obtain ⟨hr, hf, hn⟩ := hc
  have hcur := cur_new (c := c) hr hf
  obtain ⟨xs, hxs⟩ : ∃ xs : List ByteArray, xs = [⟨#[]⟩, ⟨#[45]⟩, ⟨#[45, 48]⟩, ⟨#[49, 47]⟩, ⟨#[47, 50]⟩, ⟨#[50, 47, 52]⟩, ⟨#[49, 47, 51]⟩, ⟨#[49, 47, 50, 47, 50]⟩, ⟨#[49, 47, 54, 53, 53, 51, 54]⟩, ⟨#[49, 47, 49, 51, 49, 48, 55, 50]⟩, ⟨#[49, 48, 48, 48, 48, 48, 48]⟩, ⟨#[49, 48, 48, 48, 48, 48, 49]⟩, ⟨#[48, 49]⟩, ⟨#[49, 47, 48, 50]⟩, ⟨#[45, 51, 47, 52]⟩, ⟨#[51, 47, 49]⟩] := ⟨_, rfl⟩
  have hsh := Lib.hid (short101 xs (by rw [hxs]; decide))
  have hl : xs.length = 16 := by rw [hxs]; rfl
  go_enter Tryd.func19, Tryd.ntmps19
  go_wp2_with fail
  refine (c_one 4 _ A n c bs _ _ hcur (by omega) (by omega) (by decide) (by decide)).mono ?_
  rintro e w1 ⟨x, rfl, hc1, gr1⟩
  have hg := hc1.lt
  have B1 := Lib.hid (grown_newD gr1)
  cases x
  · have HP := Lib.hid (c_dyadic0 _ A n c bs _ _ hc1 (by omega) (by omega))
    clear hc1 gr1 hcur hl hxs
    go_wp2_with fail
    refine HP.out.mono ?_
    rintro e w2 ⟨t, p, rfl, t0, t1, p0, p1, hc2, gr2⟩
    have B2 : Below w.heap.size w w2 := below_grD B1.out gr2
    have HN := Lib.hid (s_l2Text t p w2 t0 t1 p0 p1)
    have hsz := dyB_sz t0 t1 p1
    generalize dyB t p = Z at *
    have HC2 := Lib.hid hc2
    clear gr2 HP hc2
    go_wp2_with fail
    refine HN.out.mono ?_
    rintro e w3 ⟨rfl, b3⟩
    have B3 := Lib.hid (Below.next B2 b3)
    have hc3 := HC2.out.below b3
    have HO := Lib.hid (c_one 4 _ A n c bs _ _ hc3 (by omega) (by omega) (by decide) (by decide))
    have HS := Lib.hid (fun m w1 hc hm => c_spoilt Z ⟨#[45, 47, 48, 50]⟩ hsz.1 hsz.2 rfl w.heap.size A n c bs m w1 hc hm (by omega))
    clear b3 hc3 HC2 HN B2
    go_wp2_with fail
    refine HO.out.mono ?_
    rintro e w4 ⟨y, rfl, hc4, gr4⟩
    have B4 := Lib.hid (below_grD B3.out gr4)
    cases y
    · go_wp2_with fail
      exact bodyPost_ret (results_tmp rfl _ _ _) rfl ⟨Z, rfl, by omega, B4.out⟩
    · have HS2 := Lib.hid (HS.out _ _ hc4 (by omega))
      clear hc4 gr4 HS
      go_wp2_with fail
      refine HS2.out.mono ?_
      rintro e w5 ⟨s, rfl, hs, gr5⟩
      have B5 := Lib.hid (below_grD B4.out gr5)
      clear gr5
      go_wp2_with fail
      exact bodyPost_ret (results_tmp rfl _ _ _) rfl ⟨s, rfl, hs, B5.out⟩
  · have hr1 : RdS (w1.alloc (.cells (xs.map Value.string).toArray 9)) (some ⟨w1.heap.size, 0, none⟩) xs.length xs := RdS.of_cells (heap_alloc_new _ _)
    have HO := Lib.hid (c_of (some ⟨w1.heap.size, 0, none⟩) 16 xs (by omega) (by omega) w.heap.size (fun b off e => by injection e with e; injection e with e; omega) A n c bs _ _ hr1 (hc1.below ((Below.refl _ _).alloc (Nat.le_refl _) _)) (by omega) (by omega))
    rw [hl, hxs] at HO
    clear hr1 hl hc1 gr1 hcur
    go_wp2_with fail
    refine HO.out.mono ?_
    rintro e w2 ⟨s, rfl, hs, _, gr2⟩
    rw [← hxs] at hs
    have hs30 := hsh.out s hs
    have B2 : Below w.heap.size w w2 := below_grD (B1.out.alloc B1.out.size _) gr2
    clear hxs hs
    go_wp2_with fail
    exact bodyPost_ret (results_tmp rfl _ _ _) rfl ⟨s, rfl, hs30, B2⟩
def MakeD (w : World) (e : Ending) (w' : World) : Prop := ∃ t p : Int, e = .returned (.tuple #[.int .i64 t, .int .i64 p]) ∧ -1000000001 ≤ t ∧ t ≤ 1000000001 ∧ -1 ≤ p ∧ p ≤ 17 ∧ Below w.heap.size w w'
set_option maxHeartbeats 1000000 in
theorem c_DrawMakeDyadic (A : Option Addr) (n c : Nat) (bs : List Int) (w : World) (hc : Code8 w A n bs) :
    Calls Tryd.prog 22 #[.slice A n c] w (MakeD w) := by
  obtain ⟨hr, hf, hn⟩ := hc
  have hcur := cur_new (c := c) hr hf
  go_enter Tryd.func22, Tryd.ntmps22
  go_wp2_with fail
  refine (c_pick 5000 _ A n c bs _ _ hcur (by omega) (by omega) (by decide) (by decide)).mono ?_
  rintro e w1 ⟨x, rfl, x0, x1, hc1, gr1⟩
  obtain ⟨xs, hxs⟩ : ∃ xs : List Int, xs = [0, 12, -8, 7, 64000000, 1000000000, 1000000001, x - 2500] := ⟨_, rfl⟩
  have hb : Hid (∀ z ∈ xs, -1000000001 ≤ z ∧ z ≤ 1000000001) := Lib.hid (by
    rw [hxs]
    intro z hz
    simp only [List.mem_cons, List.not_mem_nil, or_false] at hz
    omega)
  have hl : xs.length = 8 := by rw [hxs]; rfl
  have hg := hc1.lt
  have hr1 : RdI (w1.alloc (.cells (xs.map (Value.int .i64)).toArray 3)) (some ⟨w1.heap.size, 0, none⟩) xs.length xs := RdI.of_cells (heap_alloc_new _ _)
  have HA := Lib.hid (c_among (some ⟨w1.heap.size, 0, none⟩) 8 xs (by omega) (by omega) w.heap.size (fun b off e => by injection e with e; injection e with e; omega) A n c bs _ _ hr1 (hc1.below ((Below.refl _ _).alloc (Nat.le_refl _) _)) (by omega) (by omega))
  rw [hl, hxs] at HA
  have B1 := Lib.hid (grown_newD gr1)
  clear hr1 hl hc1 gr1 hcur
  go_wp2_with fail
  refine HA.out.mono ?_
  rintro e w2 ⟨z, rfl, hz, hc2, gr2⟩
  rw [← hxs] at hz
  have hz2 := hb.out z hz
  have B2 : Below w.heap.size w w2 := below_grD (B1.out.alloc B1.out.size _) gr2
  have HP := Lib.hid (c_pick 19 _ A n c bs _ _ hc2 (by omega) (by omega) (by decide) (by decide))
  clear hxs hz HA hc2 gr2
  go_wp2_with fail
  refine HP.out.mono ?_
  rintro e w3 ⟨y, rfl, y0, y1, _, gr3⟩
  have B3 : Below w.heap.size w w3 := below_grD B2 gr3
  clear gr3
  go_wp2_with fail
  go_ret2
  exact ⟨z, y - 1, rfl, hz2.1, hz2.2, by omega, by omega, B3⟩
set_option maxHeartbeats 1000000 in
theorem c_DrawDyadicText (A : Option Addr) (n c : Nat) (bs : List Int) (w : World) (hc : Code8 w A n bs) :
    Calls Tryd.prog 16 #[.slice A n c] w (OneA w) := by
  have HC : Code8 (w.alloc (.cells #[.int .i64 0, .int .i64 0] 41)) A n bs := hc.below ((Below.refl _ _).alloc (Nat.le_refl _) _)
  have HD := Lib.hid (c_DrawGoodDyadic A n c bs _ HC)
  clear HC
  go_enter Tryd.func16, Tryd.ntmps16
  go_wp2_with fail
  refine HD.out.mono ?_
  rintro e w1 ⟨t, p, rfl, b1⟩
  have k0 : w1.cell? ⟨w.heap.size, 0, none⟩ = some (.int .i64 0) := bkeep b1 _ _ (by simp [go_sem])
  have k1 : w1.cell? ⟨w.heap.size, 1, none⟩ = some (.int .i64 0) := bkeep b1 _ _ (by simp [go_sem])
  have f0 : ∀ o, w1.frozen? ⟨w.heap.size, o, none⟩ = false := fun o => ((bcell b1).2 _ _ (by simp)).trans (by simp [go_sem])
  have B1 : Below w.heap.size w w1 := Below.next (by go_grown) b1
  clear b1
  go_wp2_with fail
  exact bodyPost_ret (res_dv _ _ rfl rfl (two_set k0 k1).1 (two_set k0 k1).2) rfl ⟨t, p, rfl, (B1.setCell (Nat.le_refl _) _).setCell (Nat.le_refl _) _⟩
end Go.Proofs.YtaifelcocnnkjaaDoor
