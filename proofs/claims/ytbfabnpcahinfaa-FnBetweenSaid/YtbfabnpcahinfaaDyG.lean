/- Contracts: the reference's sum, the birthday; the walks of the laws over single numbers. -/
import Derived.Test.YtbfabnpcahinfaaDyF
namespace Go.Proofs.Ytbfabnpcahinfaa
open Go.RowKit

set_option maxHeartbeats 2000000 in
theorem s_AddDyadic (t p u q : Int) (w : World) :
    Calls Try.prog 29 #[dv t p, dv u q] w fun e w' => e = .returned (rv (addV t p u q)) ∧ Below w.heap.size w w' := by
  cases hg : gd t p
  · have fin : Hid (addV t p u q = (0, 0, false)) := Lib.hid (by simp [addV, hg])
    go_enter Try.func29, Try.ntmps29
    go_wp2_with fail
    refine (s_l2Good _ _ _).mono ?_
    rintro e w1 ⟨rfl, b1⟩
    have c4 : w1.cell? ⟨w.heap.size + 2, 0, none⟩ = some (.int .i64 0) := bkeep b1 _ _ (by simp [go_sem])
    have c5 : w1.cell? ⟨w.heap.size + 2, 1, none⟩ = some (.int .i64 0) := bkeep b1 _ _ (by simp [go_sem])
    have f0 : ∀ o, w1.frozen? ⟨w.heap.size + 2, o, none⟩ = false := fun o => ((bcell b1).2 _ _ (by simp)).trans (by simp [go_sem])
    have b1' : Below w.heap.size w w1 := Below.next (by go_grown) b1
    go_wp2_with fail
    exact bodyPost_ret (res_rv _ _ rfl rfl rfl (two_set (b := w.heap.size + 2) c4 c5).1 (two_set (b := w.heap.size + 2) c4 c5).2) rfl ⟨ret_rv fin.out, (b1'.setCell (by simp; omega) _).setCell (by simp; omega) _⟩
  · go_enter Try.func29, Try.ntmps29
    go_wp2_with fail
    refine (s_l2Good _ _ _).mono ?_
    rintro e w1 ⟨rfl, b1⟩
    have c0 : w1.cell? ⟨w.heap.size, 0, none⟩ = some (.int .i64 t) := bkeep b1 _ _ (by simp [go_sem])
    have c1 : w1.cell? ⟨w.heap.size, 1, none⟩ = some (.int .i64 p) := bkeep b1 _ _ (by simp [go_sem])
    have c2 : w1.cell? ⟨w.heap.size + 1, 0, none⟩ = some (.int .i64 u) := bkeep b1 _ _ (by simp [go_sem])
    have c3 : w1.cell? ⟨w.heap.size + 1, 1, none⟩ = some (.int .i64 q) := bkeep b1 _ _ (by simp [go_sem])
    have c4 : w1.cell? ⟨w.heap.size + 2, 0, none⟩ = some (.int .i64 0) := bkeep b1 _ _ (by simp [go_sem])
    have c5 : w1.cell? ⟨w.heap.size + 2, 1, none⟩ = some (.int .i64 0) := bkeep b1 _ _ (by simp [go_sem])
    have f0 : ∀ o, w1.frozen? ⟨w.heap.size + 2, o, none⟩ = false := fun o => ((bcell b1).2 _ _ (by simp)).trans (by simp [go_sem])
    have b1' : Below w.heap.size w w1 := Below.next (by go_grown) b1
    clear b1
    go_wp2_with fail
    refine (s_l2Good _ _ _).mono ?_
    rintro e w2 ⟨rfl, b2⟩
    have d0 : w2.cell? ⟨w.heap.size, 0, none⟩ = some (.int .i64 t) := bkeep b2 _ _ c0
    have d1 : w2.cell? ⟨w.heap.size, 1, none⟩ = some (.int .i64 p) := bkeep b2 _ _ c1
    have d2 : w2.cell? ⟨w.heap.size + 1, 0, none⟩ = some (.int .i64 u) := bkeep b2 _ _ c2
    have d3 : w2.cell? ⟨w.heap.size + 1, 1, none⟩ = some (.int .i64 q) := bkeep b2 _ _ c3
    have d4 : w2.cell? ⟨w.heap.size + 2, 0, none⟩ = some (.int .i64 0) := bkeep b2 _ _ c4
    have d5 : w2.cell? ⟨w.heap.size + 2, 1, none⟩ = some (.int .i64 0) := bkeep b2 _ _ c5
    have f1 : ∀ o, w2.frozen? ⟨w.heap.size + 2, o, none⟩ = false := fun o => ((bcell b2).2 _ _ (cell_lt c4)).trans (f0 o)
    have b2' : Below w.heap.size w w2 := Below.next b1' b2
    clear c0 c1 c2 c3 c4 c5 f0 b1' b2
    cases hg2 : gd u q
    · have fin : Hid (addV t p u q = (0, 0, false)) := Lib.hid (by simp [addV, hg2])
      go_wp2_with fail
      exact bodyPost_ret (res_rv _ _ rfl rfl rfl (two_set (b := w.heap.size + 2) d4 d5).1 (two_set (b := w.heap.size + 2) d4 d5).2) rfl ⟨ret_rv fin.out, (b2'.setCell (by simp; omega) _).setCell (by simp; omega) _⟩
    · have fin : Hid (addV t p u q = lowV (sc 16 t p + sc 16 u q) 16) := Lib.hid (by simp [addV, hg, hg2])
      go_wp2_with fail
      refine (s_l2Add _ _ _ _ _ hg hg2).mono ?_
      rintro e w3 ⟨rfl, b3⟩
      have g4 : w3.cell? ⟨w.heap.size + 2, 0, none⟩ = some (.int .i64 0) := bkeep b3 _ _ d4
      have g5 : w3.cell? ⟨w.heap.size + 2, 1, none⟩ = some (.int .i64 0) := bkeep b3 _ _ d5
      have f2 : ∀ o, w3.frozen? ⟨w.heap.size + 2, o, none⟩ = false := fun o => ((bcell b3).2 _ _ (cell_lt d4)).trans (f1 o)
      have b3' : Below w.heap.size w w3 := Below.next b2' b3
      clear d0 d1 d2 d3 d4 d5 f1 b2' b3
      go_wp2_with fail
      refine (s_l2If _ _ _).mono ?_
      rintro e w4 ⟨rfl, b4⟩
      obtain ⟨m, Hm⟩ : ∃ m, Hid (addV t p u q = m) := ⟨_, Lib.hid rfl⟩
      rw [ifV_red, ← fin.out, Hm.out]
      obtain ⟨x, y, ok⟩ := m
      have k4 : w4.cell? ⟨w.heap.size + 2, 0, none⟩ = some (.int .i64 0) := bkeep b4 _ _ g4
      have k5 : w4.cell? ⟨w.heap.size + 2, 1, none⟩ = some (.int .i64 0) := bkeep b4 _ _ g5
      have f3 : ∀ o, w4.frozen? ⟨w.heap.size + 2, o, none⟩ = false := fun o => ((bcell b4).2 _ _ (cell_lt g4)).trans (f2 o)
      clear g4 g5 f2
      go_wp2_with fail
      exact bodyPost_ret (res_rv _ _ rfl rfl rfl (two_set (b := w.heap.size + 2) k4 k5).1 (two_set (b := w.heap.size + 2) k4 k5).2) rfl ⟨ret_rv Hm.out, (((Below.next b3' b4).setCell (by simp; omega) _).setCell (by simp; omega) _)⟩

/-- The birthday. -/
def bornI (t p : Int) : Int := if p = 0 then (if t < 0 then -t else t) else (if t < 0 then -t else t) / 2 ^ p.toNat + p + 1
def bornV (t p : Int) : Int × Bool := if gd t p then (bornI t p, true) else (0, false)
theorem born_bd {s p : Int} (h0 : 0 ≤ s) (h1 : s ≤ 1000000) (h3 : 0 ≤ p) (h4 : p ≤ 16) : wrap64 (wrap64 (s / 2 ^ p.toNat + p) + 1) = s / 2 ^ p.toNat + p + 1 := by
  have hp := pow_pos p.toNat
  have a1 : s / 2 ^ p.toNat ≤ s := Int.ediv_le_self _ h0
  have a2 : 0 ≤ s / 2 ^ p.toNat := Int.ediv_nonneg h0 (Int.le_of_lt hp)
  rw [IntWalk.wrap64_in (s / 2 ^ p.toNat + p) ⟨by omega, by omega⟩, IntWalk.wrap64_in _ ⟨by omega, by omega⟩]
set_option maxHeartbeats 1000000 in
theorem c_BornOfDyadic (t p : Int) (w : World) :
    Calls Try.prog 22 #[dv t p] w fun e w' => e = .returned (iv (bornV t p)) ∧ Below w.heap.size w w' := by
  cases hg : gd t p
  · have fin : Hid (bornV t p = (0, false)) := Lib.hid (by simp [bornV, hg])
    go_enter Try.func22, Try.ntmps22
    go_wp2_with fail
    refine (c_GoodDyadic _ _ _).mono ?_
    rintro e w1 ⟨rfl, b1⟩
    go_wp2_with fail
    go_ret2
    exact ⟨ret_iv fin.out, Below.next (by go_grown) b1⟩
  · obtain ⟨h1, h2, h3, h4⟩ := gd_rng hg
    have fin0 : Hid (bornV t p = (bornI t p, true)) := Lib.hid (by simp [bornV, hg])
    go_enter Try.func22, Try.ntmps22
    go_wp2_with fail
    refine (c_GoodDyadic _ _ _).mono ?_
    rintro e w1 ⟨rfl, b1⟩
    have c0 : w1.cell? ⟨w.heap.size, 0, none⟩ = some (.int .i64 t) := bkeep b1 _ _ (by simp)
    have c1 : w1.cell? ⟨w.heap.size, 1, none⟩ = some (.int .i64 p) := bkeep b1 _ _ (by simp)
    have b2 : Below w.heap.size w w1 := Below.next (by go_grown) b1
    clear b1
    by_cases hp : p = 0
    · have hp' : (p == 0) = true := by simp [hp]
      by_cases ht : t < 0
      · have fin : Hid (bornV t p = (-t, true)) := Lib.hid (by rw [fin0.out]; simp [bornI, hp, ht])
        clear hp
        go_wp2_with fail
        go_ret2
        exact ⟨ret_iv fin.out, b2⟩
      · have fin : Hid (bornV t p = (t, true)) := Lib.hid (by rw [fin0.out]; simp [bornI, hp, ht])
        clear hp
        go_wp2_with fail
        go_ret2
        exact ⟨ret_iv fin.out, b2⟩
    · have hp' : (p == 0) = false := by simp [hp]
      by_cases ht : t < 0
      · have fin : Hid (bornV t p = (wrap64 (wrap64 (-t / 2 ^ p.toNat + p) + 1), true)) := Lib.hid (by
          rw [fin0.out, born_bd (by omega) (by omega) h3 h4]; simp [bornI, hp, ht])
        clear hp
        go_wp2_with fail
        go_quiet (fail)
        go_wp2_with fail
        go_ret2
        exact ⟨ret_iv fin.out, b2.trans (((Q.refl w1).drew _).below.mono b2.size)⟩
      · have fin : Hid (bornV t p = (wrap64 (wrap64 (t / 2 ^ p.toNat + p) + 1), true)) := Lib.hid (by
          rw [fin0.out, born_bd (by omega) (by omega) h3 h4]; simp [bornI, hp, ht])
        clear hp
        go_wp2_with fail
        go_quiet (fail)
        go_wp2_with fail
        go_ret2
        exact ⟨ret_iv fin.out, b2.trans (((Q.refl w1).drew _).below.mono b2.size)⟩
set_option maxHeartbeats 400000 in
theorem s_l2Floor (t p : Int) (w : World) (h1 : -1000001 ≤ t) (h2 : t ≤ 1000001) (h3 : 0 ≤ p) (h4 : p ≤ 16) :
    Calls Try.prog 62 #[dv t p] w fun e w' => e = .returned (.int .i64 (sc 24 t p / 16777216)) ∧ Below w.heap.size w w' := by
  go_enter Try.func62, Try.ntmps62
  go_wp2_with fail
  refine (s_l2Scaled _ _ _ h1 h2 h3 h4).mono ?_
  rintro e w1 ⟨rfl, b1⟩
  go_wp2_with fail
  go_ret
  exact ⟨ret_int (by rfl), Below.next (by go_grown) b1⟩
theorem sc_floor {t p : Int} (h3 : 0 ≤ p) (h4 : p ≤ 16) : sc 24 t p / 16777216 = t / 2 ^ p.toNat := by
  unfold sc
  have e : (16777216 : Int) = 2 ^ (24 - p.toNat) * 2 ^ p.toNat := by
    rw [← Int.pow_add, show 24 - p.toNat + p.toNat = 24 from by omega]; rfl
  rw [e, Int.mul_comm t, Int.mul_ediv_mul_of_pos _ _ (pow_pos _)]
set_option maxHeartbeats 2000000 in
theorem s_l2Born (t p : Int) (w : World) (hg : gd t p = true) :
    Calls Try.prog 45 #[dv t p] w fun e w' => e = .returned (.int .i64 (bornI t p)) ∧ Below w.heap.size w w' := by
  obtain ⟨h1, h2, h3, h4⟩ := gd_rng hg
  by_cases hp : p = 0
  · have hp' : (p == 0) = true := by simp [hp]
    by_cases ht : t < 0
    · have fin : Hid (bornI t p = -t) := Lib.hid (by simp [bornI, hp, ht])
      clear hp
      go_enter Try.func45, Try.ntmps45
      go_wp2_with fail
      go_ret
      exact ⟨ret_int fin.out.symm, by go_grown⟩
    · have fin : Hid (bornI t p = t) := Lib.hid (by simp [bornI, hp, ht])
      clear hp
      go_enter Try.func45, Try.ntmps45
      go_wp2_with fail
      go_ret
      exact ⟨ret_int fin.out.symm, by go_grown⟩
  · have hp' : (p == 0) = false := by simp [hp]
    by_cases ht : t < 0
    · have fin : Hid (bornI t p = IntKind.i64.wrap (IntKind.i64.wrap (sc 24 (-t) p / 16777216 + p) + 1)) := Lib.hid (by
        rw [sc_floor h3 h4]
        have := born_bd (s := -t) (p := p) (by omega) (by omega) h3 h4
        unfold wrap64 at this
        rw [IntKind.wrap_i64, IntKind.wrap_i64, this]; simp [bornI, hp, ht])
      clear hp
      have m1 : -1000001 ≤ -t := by omega
      have m2 : -t ≤ 1000001 := by omega
      go_enter Try.func45, Try.ntmps45
      go_wp2_with fail
      go_region_held3 (fun w' => w'.cell? ⟨w.heap.size, 0, none⟩ = some (.int .i64 (-t)) ∧ w'.cell? ⟨w.heap.size, 1, none⟩ = some (.int .i64 p)) (go_keep)
        (first | (go_at_call 62; refine (s_l2Floor _ _ _ (by assumption) (by assumption) (by assumption) (by assumption)).mono ?_; rintro e w' ⟨rfl, b⟩; have hk := bkeep b))
      all_goals
        go_wp2_with fail
        go_ret
        refine ⟨ret_int fin.out.symm, ?_⟩
        refine Below.next ?_ (by assumption)
        go_grown
    · have fin : Hid (bornI t p = IntKind.i64.wrap (IntKind.i64.wrap (sc 24 t p / 16777216 + p) + 1)) := Lib.hid (by
        rw [sc_floor h3 h4]
        have := born_bd (s := t) (p := p) (by omega) (by omega) h3 h4
        unfold wrap64 at this
        rw [IntKind.wrap_i64, IntKind.wrap_i64, this]; simp [bornI, hp, ht])
      clear hp
      have m1 : -1000001 ≤ t := by omega
      have m2 : t ≤ 1000001 := by omega
      go_enter Try.func45, Try.ntmps45
      go_wp2_with fail
      go_region_held3 (fun w' => w'.cell? ⟨w.heap.size, 0, none⟩ = some (.int .i64 t) ∧ w'.cell? ⟨w.heap.size, 1, none⟩ = some (.int .i64 p)) (go_keep)
        (first | (go_at_call 62; refine (s_l2Floor _ _ _ (by assumption) (by assumption) (by assumption) (by assumption)).mono ?_; rintro e w' ⟨rfl, b⟩; have hk := bkeep b))
      all_goals
        go_wp2_with fail
        go_ret
        refine ⟨ret_int fin.out.symm, ?_⟩
        refine Below.next ?_ (by assumption)
        go_grown
set_option maxHeartbeats 1000000 in
theorem s_BornOfDyadic (t p : Int) (w : World) :
    Calls Try.prog 21 #[dv t p] w fun e w' => e = .returned (iv (bornV t p)) ∧ Below w.heap.size w w' := by
  cases hg : gd t p
  · have fin : Hid (bornV t p = (0, false)) := Lib.hid (by simp [bornV, hg])
    go_enter Try.func21, Try.ntmps21
    go_wp2_with fail
    refine (s_l2Good _ _ _).mono ?_
    rintro e w1 ⟨rfl, b1⟩
    go_wp2_with fail
    go_ret2
    exact ⟨ret_iv fin.out, Below.next (by go_grown) b1⟩
  · have fin : Hid (bornV t p = (bornI t p, true)) := Lib.hid (by simp [bornV, hg])
    go_enter Try.func21, Try.ntmps21
    go_wp2_with fail
    refine (s_l2Good _ _ _).mono ?_
    rintro e w1 ⟨rfl, b1⟩
    have c0 : w1.cell? ⟨w.heap.size, 0, none⟩ = some (.int .i64 t) := bkeep b1 _ _ (by simp)
    have c1 : w1.cell? ⟨w.heap.size, 1, none⟩ = some (.int .i64 p) := bkeep b1 _ _ (by simp)
    have b2 : Below w.heap.size w w1 := Below.next (by go_grown) b1
    clear b1
    go_wp2_with fail
    refine (s_l2Born _ _ _ hg).mono ?_
    rintro e w2 ⟨rfl, b3⟩
    go_wp2_with fail
    go_ret2
    exact ⟨ret_iv fin.out, Below.next b2 b3⟩
end Go.Proofs.Ytbfabnpcahinfaa
