/- Draws for numbers' texts and for seals. -/
import Derived.Test.YtppaplgeecojgaaDoorNtG
import Derived.Test.YtppaplgeecojgaaDoorTxG
namespace Go.Proofs.YtppaplgeecojgaaDoor
open Go.RowKit

theorem RdI.of_cells {w : World} {b : Nat} {t : TypeId} {xs : List Int} (h : w.heap[b]? = some (.cells (xs.map (Value.int .i64)).toArray t (0, 0))) : RdI w (some ⟨b, 0, none⟩) xs.length xs := by
  refine ⟨by simp, fun _ => ⟨b, 0, rfl, fun i u hu => ?_⟩⟩
  simp [World.cell?, h] at hu ⊢
  exact hu
theorem grown_new {w w' : World} {o : Obj} (gr : (w.alloc o).grownBy w' (some w.heap.size)) : Below w.heap.size w w' :=
  ((Below.refl _ _).alloc (Nat.le_refl _) _).grown gr (by simp) (fun k hk => by injection hk with hk; omega)
theorem below_gr {W w w' : World} (h : Below W.heap.size W w) (gr : w.grownBy w' (some W.heap.size)) : Below W.heap.size W w' :=
  h.grown gr h.size (fun k hk => by injection hk with hk; omega)
def NumD (w : World) (e : Ending) (w' : World) : Prop := ∃ z : Int, e = .returned (.int .i64 z) ∧ -1000000 ≤ z ∧ z ≤ 1000000 ∧ Below w.heap.size w w'
set_option maxHeartbeats 1000000 in
theorem c_DrawNumText (A : Option Addr) (n c : Nat) (bs : List Int) (w : World) (hc : Code8 w A n bs) :
    Calls Tryd.prog 19 #[.slice A n c] w (NumD w) := by
  obtain ⟨hr, hf, hn⟩ := hc
  have hcur := cur_new (c := c) hr hf
  go_enter Tryd.func19, Tryd.ntmps19
  go_wp2_with fail
  refine (c_pick 1000 _ A n c bs _ _ hcur (by omega) (by omega) (by decide) (by decide)).mono ?_
  rintro e w1 ⟨x, rfl, x0, x1, hc1, gr1⟩
  obtain ⟨xs, hxs⟩ : ∃ xs : List Int, xs = [0, 1, -1, 10, 999999, -999999, 1000000, -1000000, x - 500] := ⟨_, rfl⟩
  have hb : Hid (∀ z ∈ xs, -1000000 ≤ z ∧ z ≤ 1000000) := Lib.hid (by
    rw [hxs]
    intro z hz
    simp only [List.mem_cons, List.not_mem_nil, or_false] at hz
    omega)
  have hl : xs.length = 9 := by rw [hxs]; rfl
  have hg := hc1.lt
  have hr1 : RdI (w1.alloc (.cells (xs.map (Value.int .i64)).toArray 3)) (some ⟨w1.heap.size, 0, none⟩) xs.length xs := RdI.of_cells (heap_alloc_new _ _)
  have HA := Lib.hid (c_among (some ⟨w1.heap.size, 0, none⟩) 9 xs (by omega) (by omega) w.heap.size (fun b off e => by injection e with e; injection e with e; omega) A n c bs _ _ hr1 (hc1.below ((Below.refl _ _).alloc (Nat.le_refl _) _)) (by omega) (by omega))
  rw [hl, hxs] at HA
  have B1 := Lib.hid (grown_new gr1)
  clear hr1 hl hc1 gr1 hcur
  go_wp2_with fail
  refine HA.out.mono ?_
  rintro e w2 ⟨z, rfl, hz, hc2, gr2⟩
  rw [← hxs] at hz
  have hz2 := hb.out z hz
  have B2 : Below w.heap.size w w2 := below_gr (B1.out.alloc B1.out.size _) gr2
  clear hxs hz
  go_wp2_with fail
  exact bodyPost_ret (results_tmp rfl _ _ _) rfl ⟨z, rfl, hz2.1, hz2.2, B2⟩
def TextD (k : Nat) (w : World) (e : Ending) (w' : World) : Prop := ∃ s : ByteArray, e = .returned (.string s) ∧ s.size ≤ k ∧ Below w.heap.size w w'
theorem short30 (xs : List ByteArray) (h : xs.all (fun x => decide (x.size ≤ 30)) = true) : ∀ x ∈ xs, x.size ≤ 30 := fun x hx => by
  simpa using List.all_eq_true.1 h x hx
set_option maxHeartbeats 1000000 in
theorem c_DrawReadNum (A : Option Addr) (n c : Nat) (bs : List Int) (w : World) (hc : Code8 w A n bs) :
    Calls Tryd.prog 20 #[.slice A n c] w (TextD 30 w) := by
  obtain ⟨hr, hf, hn⟩ := hc
  have hcur := cur_new (c := c) hr hf
  obtain ⟨xs, hxs⟩ : ∃ xs : List ByteArray, xs = [⟨#[]⟩, ⟨#[45]⟩, ⟨#[45, 48]⟩, ⟨#[48, 48]⟩, ⟨#[48, 49]⟩, ⟨#[45, 45, 49]⟩, ⟨#[49, 120]⟩, ⟨#[57, 57, 57, 57, 57, 57]⟩, ⟨#[49, 48, 48, 48, 48, 48, 48]⟩, ⟨#[45, 57, 57, 57, 57, 57, 57]⟩, ⟨#[49, 56, 52, 52, 54, 55, 52, 52, 48, 55, 51, 55, 48, 57, 53, 53, 49, 54, 49, 55]⟩] := ⟨_, rfl⟩
  have hsh := Lib.hid (short30 xs (by rw [hxs]; decide))
  have hl : xs.length = 11 := by rw [hxs]; rfl
  go_enter Tryd.func20, Tryd.ntmps20
  go_wp2_with fail
  refine (c_one 2 _ A n c bs _ _ hcur (by omega) (by omega) (by decide) (by decide)).mono ?_
  rintro e w1 ⟨x, rfl, hc1, gr1⟩
  have hg := hc1.lt
  have B1 := Lib.hid (grown_new gr1)
  cases x
  · have HP := Lib.hid (c_pick 2000 _ A n c bs _ _ hc1 (by omega) (by omega) (by decide) (by decide))
    clear hc1 gr1 hcur hl hxs
    go_wp2_with fail
    refine HP.out.mono ?_
    rintro e w2 ⟨y, rfl, y0, y1, _, gr2⟩
    have B2 : Below w.heap.size w w2 := below_gr B1.out gr2
    have HN := Lib.hid (s_l1Num (y - 1000) w2 (by omega) (by omega))
    have hlen := numB_len (n := y - 1000) (by omega) (by omega)
    have hsz : Hid ((strOfNums (numB (y - 1000))).size ≤ 30) := Lib.hid (by rw [strOfNums_size]; omega)
    clear gr2 hlen
    go_wp2_with fail
    refine HN.out.mono ?_
    rintro e w3 ⟨rfl, q⟩
    have B3 := Below.next B2 q.below
    go_wp2_with fail
    exact bodyPost_ret (results_tmp rfl _ _ _) rfl ⟨_, rfl, hsz.out, B3⟩
  · have hr1 : RdS (w1.alloc (.cells (xs.map Value.string).toArray 9)) (some ⟨w1.heap.size, 0, none⟩) xs.length xs := RdS.of_cells (heap_alloc_new _ _)
    have HO := Lib.hid (c_of (some ⟨w1.heap.size, 0, none⟩) 11 xs (by omega) (by omega) w.heap.size (fun b off e => by injection e with e; injection e with e; omega) A n c bs _ _ hr1 (hc1.below ((Below.refl _ _).alloc (Nat.le_refl _) _)) (by omega) (by omega))
    rw [hl, hxs] at HO
    clear hr1 hl hc1 gr1 hcur
    go_wp2_with fail
    refine HO.out.mono ?_
    rintro e w2 ⟨s, rfl, hs, _, gr2⟩
    rw [← hxs] at hs
    have hs30 := hsh.out s hs
    have B2 : Below w.heap.size w w2 := below_gr (B1.out.alloc B1.out.size _) gr2
    clear hxs hs
    go_wp2_with fail
    exact bodyPost_ret (results_tmp rfl _ _ _) rfl ⟨s, rfl, hs30, B2⟩
theorem mk_bytes (n : Nat) (hn : n ≤ 1048576) (W : World) :
    (Instr.makeSlice 29 (.int .i64 (n : Int)) (.int .i64 (n : Int))).run Tryd.prog W = .ok (.slice (some ⟨W.heap.size, 0, none⟩) n n) (W.alloc (.cells (madeCells #[.int .u8 0] n) 5)) :=
  run_make_row' (P := Tryd.prog) 29 5 (.int .u8 0) 1 Tryd.underlying29 (by kernel_rfl) rfl .i64 .i64 n (by omega) (by omega) W
set_option maxHeartbeats 1000000 in
theorem c_DrawSealText (A : Option Addr) (n c : Nat) (bs : List Int) (w : World) (hc : Code8 w A n bs) :
    Calls Tryd.prog 21 #[.slice A n c] w (TextD 4000 w) := by
  obtain ⟨hr, hf, hn⟩ := hc
  have hcur := cur_new (c := c) hr hf
  go_enter Tryd.func21, Tryd.ntmps21
  go_wp2_with fail
  refine (c_one 20 _ A n c bs _ _ hcur (by omega) (by omega) (by decide) (by decide)).mono ?_
  rintro e w1 ⟨x, rfl, hc1, gr1⟩
  have hg := hc1.lt
  have B1 := Lib.hid (grown_new gr1)
  cases x
  · have HP := Lib.hid (c_any1 _ A n c bs _ _ hc1 (by omega) (by omega))
    clear hc1 gr1 hcur
    go_wp2_with fail
    refine HP.out.mono ?_
    rintro e w2 ⟨s, rfl, s10, _, gr2⟩
    have B2 : Below w.heap.size w w2 := below_gr B1.out gr2
    go_wp2_with fail
    exact bodyPost_ret (results_tmp rfl _ _ _) rfl ⟨s, rfl, by omega, B2⟩
  · have HP := Lib.hid (c_pick 10 _ A n c bs _ _ hc1 (by omega) (by omega) (by decide) (by decide))
    clear hc1 gr1 hcur
    go_wp2_with fail
    refine HP.out.mono ?_
    rintro e w3 ⟨y, rfl, y0, y1, _, gr2⟩
    obtain ⟨z, hz⟩ : ∃ z : Nat, 3990 + y = (z : Int) := Int.eq_ofNat_of_zero_le (by omega)
    have hz4 : z ≤ 3999 := by omega
    have B2 : Below w.heap.size w w3 := below_gr B1.out gr2
    have B3 := Lib.hid (B2.alloc B2.size (.cells (madeCells #[.int .u8 0] z) 5))
    have hmk := mk_bytes z (by omega)
    have hrow := World.rowIs_made w3 (.int .u8 0) z 5
    have hcv := run_convert_bytes_arg (P := Tryd.prog) (w3.alloc (.cells (madeCells #[.int .u8 0] z) 5)) 29 5 Tryd.underlying29 (by kernel_rfl) w3.heap.size 0 z z (List.replicate z 0) (by simp) (fun i hi => by
      rw [Nat.zero_add, hrow.cell hi]
      simp [hi]) 9 (by kernel_rfl)
    have Hss := Lib.hid (strOfNums_size (List.replicate z 0))
    obtain ⟨X, HX⟩ : ∃ X, Hid (strOfNums (List.replicate z 0) = X) := ⟨_, Lib.hid rfl⟩
    rw [HX.out] at hcv Hss
    clear hrow gr2 B2
    go_wp2_with fail
    exact bodyPost_ret (results_tmp rfl _ _ _) rfl ⟨X, rfl, by rw [Hss.out]; simp; omega, B3.out⟩
end Go.Proofs.YtppaplgeecojgaaDoor
