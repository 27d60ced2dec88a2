/- Draws: two numbers, the second one often near the first; one number; bytes that were cut. -/
import Derived.Test.YtbfabnpcahinfaaDyT
namespace Go.Proofs.Ytbfabnpcahinfaa
open Go.RowKit

/-- A number, perhaps not good, times 2^24. -/
def ss (t p : Int) : Int := t * 2 ^ (24 - p).toNat
theorem ss_bd {t p : Int} (h1 : -1000001 ≤ t) (h2 : t ≤ 1000001) (h3 : -1 ≤ p) : -33554465554432 ≤ ss t p ∧ ss t p ≤ 33554465554432 := by
  have hp : (2 : Nat) ^ (24 - p).toNat ≤ 2 ^ 25 := Nat.pow_le_pow_right (by omega) (by omega)
  have h0 := pow_pos (24 - p).toNat
  have e : (2 : Int) ^ (24 - p).toNat = ((2 ^ (24 - p).toNat : Nat) : Int) := by simp
  have e25 : (2 : Nat) ^ 25 = 33554432 := by decide
  have hp2 : (2 : Int) ^ (24 - p).toNat ≤ 33554432 := by omega
  unfold ss
  generalize (2 : Int) ^ (24 - p).toNat = a at *
  constructor
  · have : -1000001 * a ≤ t * a := Int.mul_le_mul_of_nonneg_right h1 (by omega)
    omega
  · have : t * a ≤ 1000001 * a := Int.mul_le_mul_of_nonneg_right h2 (by omega)
    omega
set_option maxHeartbeats 400000 in
theorem s_l2Scaled_any (t p : Int) (w : World) (h1 : -1000001 ≤ t) (h2 : t ≤ 1000001) (h3 : -1 ≤ p) (h4 : p ≤ 17) :
    Calls Try.prog 63 #[dv t p] w fun e w' => e = .returned (.int .i64 (ss t p)) ∧ Below w.heap.size w w' := by
  have hb := ss_bd h1 h2 h3
  have hw : Hid (wrap64 (t * 2 ^ (24 - p).toNat) = ss t p) := Lib.hid (by
    have : t * 2 ^ (24 - p).toNat = ss t p := rfl
    rw [this]
    exact IntWalk.wrap64_in _ ⟨by omega, by omega⟩)
  clear hb
  go_enter Try.func63, Try.ntmps63
  go_wp2
  go_ret
  exact ⟨ret_int hw.out, by go_grown⟩
set_option maxHeartbeats 2000000 in
theorem s_l2Add_any (t p u q : Int) (w : World) (h1 : -1000001 ≤ t) (h2 : t ≤ 1000001) (h3 : -1 ≤ p) (h4 : p ≤ 17) (k1 : -1000001 ≤ u) (k2 : u ≤ 1000001) (k3 : -1 ≤ q) (k4 : q ≤ 17) :
    Calls Try.prog 53 #[dv t p, dv u q] w fun e w' => e = .returned (dv (red (ss t p + ss u q) 24).1 (red (ss t p + ss u q) 24).2) ∧ Below w.heap.size w w' := by
  have s1 := ss_bd h1 h2 h3
  have s2 := ss_bd k1 k2 k3
  obtain ⟨s1a, s1b⟩ := s1
  obtain ⟨s2a, s2b⟩ := s2
  have wr : IntKind.i64.wrap (ss t p + ss u q) = ss t p + ss u q := IntWalk.i64_in _ ⟨by omega, by omega⟩
  have wb1 : -4611686018427387904 ≤ IntKind.i64.wrap (ss t p + ss u q) := by rw [wr]; omega
  have wb2 : IntKind.i64.wrap (ss t p + ss u q) ≤ 4611686018427387904 := by rw [wr]; omega
  obtain ⟨m, Hm⟩ : ∃ m, Hid (red (IntKind.i64.wrap (ss t p + ss u q)) 24 = m) := ⟨_, Lib.hid rfl⟩
  have fin' : Hid (red (ss t p + ss u q) 24 = m) := Lib.hid (by rw [← Hm.out, wr])
  clear wr
  obtain ⟨x, y⟩ := m
  rw [fin'.out]
  go_enter Try.func53, Try.ntmps53
  go_wp2_with fail
  have n1 : ¬ (w.heap.size + 1 + 1 = w.heap.size) := by omega
  have n2 : ¬ (w.heap.size = w.heap.size + 1 + 1) := by omega
  have n3 : ¬ (w.heap.size + 2 = w.heap.size) := by omega
  have n4 : ¬ (w.heap.size = w.heap.size + 2) := by omega
  obtain ⟨w2, hw2⟩ : ∃ w2, w2 = ((w.alloc (.cells #[.int .i64 t, .int .i64 p] 26)).alloc (.cells #[.int .i64 u, .int .i64 q] 26)).alloc (.cells #[.int .i64 0, .int .i64 0] 26) := ⟨_, rfl⟩
  have d0 : w2.cell? ⟨w.heap.size, 0, none⟩ = some (.int .i64 t) := by rw [hw2]; simp [go_sem]
  have d1 : w2.cell? ⟨w.heap.size, 1, none⟩ = some (.int .i64 p) := by rw [hw2]; simp [go_sem]
  have d2 : w2.cell? ⟨w.heap.size + 1, 0, none⟩ = some (.int .i64 u) := by rw [hw2]; simp [go_sem]
  have d3 : w2.cell? ⟨w.heap.size + 1, 1, none⟩ = some (.int .i64 q) := by rw [hw2]; simp [go_sem]
  have d4 : w2.cell? ⟨w.heap.size + 2, 0, none⟩ = some (.int .i64 0) := by rw [hw2]; simp [go_sem]
  have d5 : w2.cell? ⟨w.heap.size + 2, 1, none⟩ = some (.int .i64 0) := by rw [hw2]; simp [go_sem]
  have f1 : ∀ o, w2.frozen? ⟨w.heap.size + 2, o, none⟩ = false := fun o => by rw [hw2]; simp [go_sem]
  have b2' : Below w.heap.size w w2 := by rw [hw2]; go_grown
  rw [← hw2]
  clear hw2
  go_region_held3 (fun w' => w'.cell? ⟨w.heap.size, 0, none⟩ = some (.int .i64 t) ∧ w'.cell? ⟨w.heap.size, 1, none⟩ = some (.int .i64 p) ∧ w'.cell? ⟨w.heap.size + 1, 0, none⟩ = some (.int .i64 u) ∧ w'.cell? ⟨w.heap.size + 1, 1, none⟩ = some (.int .i64 q))
    (go_keep)
    (first | (go_at_call 63; refine (s_l2Scaled_any _ _ _ (by assumption) (by assumption) (by assumption) (by assumption)).mono ?_; rintro e w' ⟨rfl, b⟩; have hk := bkeep b; have x0 := hk ⟨w.heap.size + 2, 0, none⟩ (.int .i64 0) (by simp [*]); have x1 := hk ⟨w.heap.size + 2, 1, none⟩ (.int .i64 0) (by simp [*]); have y0 : ∀ o, w'.frozen? ⟨w.heap.size + 2, o, none⟩ = false := fun o => ((bcell b).2 _ _ (lt_of_cell (o := 0) (u := .int .i64 0) (by simp [*]))).trans (by simp [*])) | (go_at_call 48; refine (s_l2Make _ 24 _ (by assumption) (by assumption) (by decide)).mono ?_; rintro e w' ⟨rfl, b⟩; have hk := bkeep b; have x0 := hk ⟨w.heap.size + 2, 0, none⟩ (.int .i64 0) (by simp [*]); have x1 := hk ⟨w.heap.size + 2, 1, none⟩ (.int .i64 0) (by simp [*]); have y0 : ∀ o, w'.frozen? ⟨w.heap.size + 2, o, none⟩ = false := fun o => ((bcell b).2 _ _ (lt_of_cell (o := 0) (u := .int .i64 0) (by simp [*]))).trans (by simp [*]); rw [Hm.out]))
  all_goals
    go_wp2_with fail
    refine bodyPost_ret (res_dv _ _ rfl rfl (two_set (b := w.heap.size + 2) x0 x1).1 (two_set (b := w.heap.size + 2) x0 x1).2) rfl ⟨rfl, ?_⟩
    refine ((?_ : Below w.heap.size w w').setCell (by simp; omega) _).setCell (by simp; omega) _
    refine Below.next ?_ (by assumption)
    refine Below.next ?_ (by assumption)
    refine Below.next ?_ (by assumption)
    exact b2'.drew
/-- Two numbers. -/
def TwoA (w : World) (e : Ending) (w' : World) : Prop := ∃ t p u q : Int, e = .returned (.tuple #[dv t p, dv u q]) ∧ Below w.heap.size w w'
def OneA (w : World) (e : Ending) (w' : World) : Prop := ∃ t p : Int, e = .returned (dv t p) ∧ Below w.heap.size w w'
set_option maxHeartbeats 1000000 in
theorem c_DrawGoodDyadic (A : Option Addr) (n c : Nat) (bs : List Int) (w : World) (hc : Code8 w A n bs) :
    Calls Try.prog 41 #[.slice A n c] w (OneA w) := by
  obtain ⟨hr, hf, hn⟩ := hc
  obtain ⟨W2, hW2⟩ : ∃ W2, W2 = w.alloc (.cells #[.int .i64 0, .int .i64 0] 26) := ⟨_, rfl⟩
  have BW : Below w.heap.size w W2 := by rw [hW2]; exact (Below.refl _ _).alloc (Nat.le_refl _) _
  have hcur := cur_new (c := c) (hr.below BW) hf
  have hz : W2.heap.size = w.heap.size + 1 := by rw [hW2]; simp
  have R2 : Bx W2 w.heap.size 0 0 := by rw [hW2]; exact Bx.new w 0 0 _
  have H2 := Lib.hid R2
  clear R2 hr
  rw [hz] at hcur
  rw [hW2] at hcur
  go_enter Try.func41, Try.ntmps41
  go_wp2_with fail
  refine (c_anyDyadic _ A n c bs _ _ hcur (by omega) (by omega)).mono ?_
  rintro e w1 ⟨t, p, rfl, t0, t1, p0, p1, hc1, gr1⟩
  rw [← hW2] at gr1
  have R2 := (H2.out.below ((Below.refl _ _).alloc (Nat.le_refl _) (.cells #[.slice A n c, .int .i64 0, .int .u64 0] 67))).grown gr1 (fun e => by have := Option.some.inj e; omega)
  have B1 : Below w.heap.size w w1 := (BW.alloc (by omega) (.cells #[.slice A n c, .int .i64 0, .int .u64 0] 67)).grown gr1 (by simp; omega) (fun k hk => by have := Option.some.inj hk; omega)
  clear hcur gr1 hc1 H2 BW hW2 hz
  obtain ⟨r0, r1, rf⟩ := R2
  go_wp2_with fail
  exact bodyPost_ret (res_dv _ _ rfl rfl (two_set r0 r1).1 (two_set r0 r1).2) rfl ⟨t, p, rfl, (B1.setCell (by simp) _).setCell (by simp) _⟩
end Go.Proofs.Ytbfabnpcahinfaa
