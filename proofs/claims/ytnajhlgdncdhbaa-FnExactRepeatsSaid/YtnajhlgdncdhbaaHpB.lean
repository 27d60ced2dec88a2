/- Periods: contracts of GoodPeriod and Repeats, the walks of their laws. -/
import Derived.Test.YtnajhlgdncdhbaaGen
import Derived.Handy
import Derived.Deep.RegionWith
import Derived.Deep.DeepCutAuto
import Derived.Deep.RegionHeld3
namespace Go.Proofs.Ytnajhlgdncdhbaa
open Go.RowKit

/-- A period as a value. -/
abbrev pv (t p : Int) : Value := .agg #[.int .i64 t, .int .i64 p]
def gp (t p : Int) : Bool := inB t 0 300 && inB p 1 300
set_option maxHeartbeats 400000 in
theorem c_GoodPeriod (t p : Int) (w : World) :
    Calls Try.prog 15 #[pv t p] w fun e w' => e = .returned (.bool (gp t p)) ∧ Below w.heap.size w w' := by
  go_enter Try.func15, Try.ntmps15
  go_wp2
  all_goals
    go_ret
    exact ⟨ret_bool (by rw [Bool.eq_iff_iff]; simp [gp, inB]; omega), by go_grown⟩
set_option maxHeartbeats 400000 in
theorem s_GoodPeriod (t p : Int) (w : World) :
    Calls Try.prog 13 #[pv t p] w fun e w' => e = .returned (.bool (gp t p)) ∧ Below w.heap.size w w' := by
  cases h1 : inB t 0 300
  · have fin : Hid (gp t p = false) := Lib.hid (by simp [gp, h1])
    go_enter Try.func13, Try.ntmps13
    go_wp2_with (go_at_call 45; refine (c_l1In _ _ _ _).mono ?_; rintro e w' ⟨rfl, rfl⟩)
    go_ret
    exact ⟨ret_bool fin.out.symm, by go_grown⟩
  · have fin : Hid (gp t p = inB p 1 300) := Lib.hid (by simp [gp, h1])
    go_enter Try.func13, Try.ntmps13
    go_wp2_with (go_at_call 45; refine (c_l1In _ _ _ _).mono ?_; rintro e w' ⟨rfl, rfl⟩)
    go_ret
    exact ⟨ret_bool fin.out.symm, by go_grown⟩
set_option maxHeartbeats 400000 in
theorem c_toPeriod (t p : Int) (w : World) :
    Calls Try.prog 14 #[pv t p] w fun e w' => e = .returned (pv t p) ∧ Below w.heap.size w w' := by
  go_enter Try.func14, Try.ntmps14
  go_wp2
  exact bodyPost_ret (v := pv t p) (by simp [results, Try.results14, go_sem]) rfl ⟨rfl, by go_grown⟩
theorem lt_of_cell {w : World} {b o : Nat} {v : Value} (h : w.cell? ⟨b, o, none⟩ = some v) : b < w.heap.size := cell_lt h
set_option maxHeartbeats 400000 in
theorem w_FnExactGoodPeriod (t p : Int) (w : World) (_wt : (Lit.int .i64 t).wf = true) (_wp : (Lit.int .i64 p).wf = true) :
    Calls Try.prog 3 #[pv t p] w fun e w' => e = .returned (.bool true) ∧ Below w.heap.size w w' := by
  clear _wt _wp
  go_enter Try.func3, Try.ntmps3
  go_wp2_with fail
  refine (c_toPeriod _ _ _).mono ?_
  rintro e w1 ⟨rfl, b1⟩
  have ca_0 : w1.cell? ⟨w.heap.size, 0, none⟩ = some (.int .i64 t) := bkeep b1 _ _ (by first | assumption | simp [go_sem, *])
  have ca_1 : w1.cell? ⟨w.heap.size, 1, none⟩ = some (.int .i64 p) := bkeep b1 _ _ (by first | assumption | simp [go_sem, *])
  have la : w.heap.size < w1.heap.size := lt_of_cell ca_0
  have B1 : Below w.heap.size w w1 := Below.next (by go_grown) b1
  go_wp2_with fail
  refine (s_GoodPeriod _ _ _).mono ?_
  rintro e w2 ⟨rfl, b2⟩
  have ca_0 : w2.cell? ⟨w.heap.size, 0, none⟩ = some (.int .i64 t) := bkeep b2 _ _ (by first | assumption | simp [go_sem, *])
  have ca_1 : w2.cell? ⟨w.heap.size, 1, none⟩ = some (.int .i64 p) := bkeep b2 _ _ (by first | assumption | simp [go_sem, *])
  have la : w.heap.size < w2.heap.size := lt_of_cell ca_0
  have B2 : Below w.heap.size w w2 := Below.next (B1) b2
  obtain ⟨m, Hm⟩ : ∃ m, Hid (gp t p = m) := ⟨_, Lib.hid rfl⟩
  rw [Hm.out]
  go_wp2_with fail
  refine (c_toPeriod _ _ _).mono ?_
  rintro e w3 ⟨rfl, b3⟩
  have B3 : Below w.heap.size w w3 := Below.next (B2) b3
  go_wp2_with fail
  refine (c_GoodPeriod _ _ _).mono ?_
  rintro e w4 ⟨rfl, b4⟩
  have B4 : Below w.heap.size w w4 := Below.next (B3) b4
  rw [Hm.out]
  go_wp2_with fail
  go_ret
  exact ⟨rfl, B4⟩

/-- The least index from on which values repeat, of k pairs. -/
def stl (xs : List Int) (l : Nat) : Nat → Nat
  | 0 => 0
  | k + 1 => if xs.getD k 0 == xs.getD (k + l) 0 then stl xs l k else k + 1
theorem stl_le (xs : List Int) (l : Nat) : ∀ k, stl xs l k ≤ k
  | 0 => Nat.le_refl _
  | k + 1 => by unfold stl; have := stl_le xs l k; split <;> omega
theorem stl_iff (xs : List Int) (l pre : Nat) : ∀ k, stl xs l k ≤ pre ↔ ∀ j, pre ≤ j → j < k → xs.getD j 0 = xs.getD (j + l) 0
  | 0 => ⟨fun _ j _ h => absurd h (by omega), fun _ => Nat.zero_le _⟩
  | k + 1 => by
    have ih := stl_iff xs l pre k
    by_cases h : xs.getD k 0 = xs.getD (k + l) 0
    · rw [show stl xs l (k + 1) = stl xs l k from by rw [stl, if_pos (beq_iff_eq.2 h)], ih]
      exact ⟨fun a j h1 h2 => by
        by_cases e : j = k
        · subst e; exact h
        · exact a j h1 (by omega), fun a j h1 h2 => a j h1 (by omega)⟩
    · rw [show stl xs l (k + 1) = k + 1 from by rw [stl, if_neg (fun e => h (beq_iff_eq.1 e))]]
      exact ⟨fun a j h1 h2 => absurd h2 (by omega), fun a => by
        rcases Nat.lt_or_ge pre (k + 1) with h1 | h1
        · exact absurd (a k (by omega) (by omega)) h
        · exact h1⟩

set_option maxHeartbeats 800000 in
theorem c_settled (A : Option Addr) (c : Nat) (xs : List Int) (l : Nat) (w : World) (rd : RdI w A xs.length xs) (hn : xs.length ≤ 1048576) (h1 : 1 ≤ l) (h2 : l ≤ 300) :
    Calls Try.prog 47 #[.slice A xs.length c, .int .i64 l] w fun e w' => e = .returned (.int .i64 (stl xs l (xs.length - l) : Nat)) ∧ Q w w' := by
  obtain ⟨r, hr⟩ : ∃ r, Hid (stl xs l (xs.length - l) = r) := ⟨_, Lib.hid rfl⟩
  rw [hr.out]
  go_enter Try.func47, Try.ntmps47
  go_wp2_with fail
  go_loopw [5] (fun i wr => ∃ (k : Nat) (j : Int), i = .int .i64 j ∧ -400 ≤ j ∧ j < xs.length ∧ Hid (0 ≤ j → j = (k : Int) - 1 ∧ k + l ≤ xs.length) ∧ Hid (j < 0 → k = 0) ∧ Hid (stl xs l k = r) ∧ Q w wr) (fun i _ => (intOf i + 1).toNat)
  case atStart => exact ⟨xs.length - l, _, rfl, by omega, by omega, Lib.hid (by intro h; omega), Lib.hid (by intro h; omega), hr, Q.refl _⟩
  case round =>
    rename_i wr
    obtain ⟨k, j, rfl, hj1, hj2, hp, hm, hrem, q⟩ := hrel
    by_cases h0 : 0 ≤ j
    · obtain ⟨e1, e2⟩ := hp.out h0
      clear hp hm
      obtain ⟨m, rfl⟩ : ∃ m, k = m + 1 := ⟨k - 1, by omega⟩
      obtain rfl : j = (m : Int) := by omega
      clear e1
      obtain ⟨b, off, rfl, _, hc⟩ := (rd.q q).at_ (k := m) (by omega)
      obtain ⟨b', off', hA, _, hc'⟩ := (rd.q q).at_ (k := m + l) (by omega)
      injection hA with hA
      injection hA with e3 e4
      subst e3 e4
      have hid : Hid (stl xs l (m + 1) = if xs.getD m 0 == xs.getD (m + l) 0 then stl xs l m else m + 1) := Lib.hid (by rw [stl])
      generalize xs.getD m 0 = y at *
      generalize xs.getD (m + l) 0 = y' at *
      have hw : IntKind.i64.wrap ((m : Int) + (l : Int)) = (m : Int) + l := IntWalk.i64_in _ (by omega)
      have ht : ((m : Int) + (l : Int)).toNat = m + l := by omega
      have h3 : (0 : Int) ≤ (m : Int) + l := by omega
      have h4 : (m : Int) + l < xs.length := by omega
      by_cases he : y = y'
      · have he' : (y == y') = true := beq_iff_eq.2 he
        have hrem' : Hid (stl xs l m = r) := Lib.hid (by rw [← hrem.out, hid.out, if_pos he'])
        clear he rd
        go_wp2_with fail
        go_quiet (fail)
        clear hw ht
        go_wp2_with fail
        go_roundw
        case rel => exact ⟨m, _, rfl, by omega, by omega, Lib.hid (by intro h; omega), Lib.hid (by intro h; omega), hrem', q.drew _⟩
        case measure => simp [intOf]
      · have he' : (y == y') = false := beq_eq_false_iff_ne.2 he
        have fin : Hid (m + 1 = r) := Lib.hid (by rw [← hrem.out, hid.out, if_neg (by simp [he])])
        clear he rd
        go_wp2_with fail
        go_quiet (fail)
        clear hw ht
        go_wp2_with fail
        go_ret
        exact ⟨ret_int (by rw [← fin.out]; simp), q.drew _⟩
    · have hk := hm.out (by omega)
      subst hk
      have fin : Hid (0 = r) := Lib.hid (by rw [← hrem.out]; rfl)
      clear hp hm
      go_wp2_with fail
      go_ret
      exact ⟨ret_int (by rw [← fin.out]; rfl), q⟩

def repV (xs : List Int) (t p : Int) : Bool := gp t p && decide (stl xs p.toNat (xs.length - p.toNat) ≤ t.toNat)
set_option maxHeartbeats 800000 in
theorem s_l18Repeats (A : Option Addr) (c : Nat) (xs : List Int) (t l : Nat) (w : World) (rd : RdI w A xs.length xs) (hn : xs.length ≤ 1048576) (h0 : t ≤ 300) (h1 : 1 ≤ l) (h2 : l ≤ 300) :
    Calls Try.prog 46 #[.slice A xs.length c, pv t l] w fun e w' => e = .returned (.bool (decide (stl xs l (xs.length - l) ≤ t))) ∧ Below w.heap.size w w' := by
  have hiff := Lib.hid (stl_iff xs l t (xs.length - l))
  obtain ⟨r, hr⟩ : ∃ r, Hid (decide (stl xs l (xs.length - l) ≤ t) = r) := ⟨_, Lib.hid rfl⟩
  rw [hr.out]
  have rd' := rd.below ((Below.refl w.heap.size w).alloc (Nat.le_refl _) (.cells #[.int .i64 (t : Int), .int .i64 (l : Int)] 25))
  clear rd
  go_enter Try.func46, Try.ntmps46
  go_wp2_with fail
  go_loopw [5] (fun i wr => ∃ k : Nat, i = .int .i64 k ∧ t ≤ k ∧ k ≤ xs.length + 300 ∧ Hid (∀ j, t ≤ j → j < k → xs.getD j 0 = xs.getD (j + l) 0) ∧ Q (w.alloc (.cells #[.int .i64 (t : Int), .int .i64 (l : Int)] 25)) wr) (fun i _ => xs.length + 300 - (intOf i).toNat)
  case atStart => exact ⟨t, rfl, Nat.le_refl _, by omega, Lib.hid (fun j a b => absurd b (by omega)), Q.refl _⟩
  case round =>
    rename_i wr
    obtain ⟨k, rfl, hk1, hk2, hall, q⟩ := hrel
    have c0 : wr.cell? ⟨w.heap.size, 0, none⟩ = some (.int .i64 t) := (q.cell _).trans (by simp [go_sem])
    have c1 : wr.cell? ⟨w.heap.size, 1, none⟩ = some (.int .i64 l) := (q.cell _).trans (by simp [go_sem])
    have b0 : Below w.heap.size w wr := ((Below.refl w.heap.size w).alloc (Nat.le_refl _) _).trans (q.below.mono (by simp))
    by_cases hlt : k + l < xs.length
    · obtain ⟨b, off, rfl, _, hc⟩ := (rd'.q q).at_ (k := k) (by omega)
      obtain ⟨b', off', hA, _, hc'⟩ := (rd'.q q).at_ (k := k + l) (by omega)
      injection hA with hA
      injection hA with e3 e4
      subst e3 e4
      have hw : IntKind.i64.wrap ((k : Int) + (l : Int)) = (k : Int) + l := IntWalk.i64_in _ (by omega)
      have ht : ((k : Int) + (l : Int)).toNat = k + l := by omega
      have h3 : (0 : Int) ≤ (k : Int) + l := by omega
      have h4 : (k : Int) + l < xs.length := by omega
      have h5 : (k : Int) < xs.length := by omega
      by_cases he : xs.getD k 0 = xs.getD (k + l) 0
      · have hall' : Hid (∀ j, t ≤ j → j < k + 1 → xs.getD j 0 = xs.getD (j + l) 0) := Lib.hid (fun j a b => by
          by_cases e : j = k
          · subst e; exact he
          · exact hall.out j a (by omega))
        clear hiff
        generalize xs.getD k 0 = y at *
        generalize xs.getD (k + l) 0 = y' at *
        have he' : (y == y') = true := beq_iff_eq.2 he
        have Hb := Lib.hid b0
        clear he rd' b0 hall
        go_wp2_with fail
        go_quiet (fail)
        clear hw ht
        go_wp2_with fail
        go_roundw
        case rel => exact ⟨k + 1, by go_num, by omega, by omega, hall', q.drew _⟩
        case measure => simp [intOf]; omega
      · have fin : Hid (false = r) := Lib.hid (by
          rw [← hr.out]; symm; rw [decide_eq_false_iff_not, hiff.out]
          exact fun a => he (a k hk1 (by omega)))
        clear hiff hall
        generalize xs.getD k 0 = y at *
        generalize xs.getD (k + l) 0 = y' at *
        have he' : (y == y') = false := beq_eq_false_iff_ne.2 he
        have Hb := Lib.hid b0
        clear he rd' b0
        go_wp2_with fail
        go_quiet (fail)
        clear hw ht
        go_wp2_with fail
        go_ret
        exact ⟨ret_bool fin.out, Below.next Hb.out ((Q.refl _).drew _).below⟩
    · have fin : Hid (true = r) := Lib.hid (by
        rw [← hr.out]; symm; rw [decide_eq_true_iff, hiff.out]
        exact fun j a b => hall.out j a (by omega))
      have Hb := Lib.hid b0
      clear hiff hall rd' b0
      go_wp2_with fail
      go_ret
      exact ⟨ret_bool fin.out, Hb.out⟩
set_option maxHeartbeats 800000 in
theorem s_Repeats (A : Option Addr) (c : Nat) (xs : List Int) (t p : Int) (w : World) (rd : RdI w A xs.length xs) (hn : xs.length ≤ 1048576) :
    Calls Try.prog 20 #[.slice A xs.length c, pv t p] w fun e w' => e = .returned (.bool (repV xs t p)) ∧ Below w.heap.size w w' := by
  have rd' := rd.below ((Below.refl w.heap.size w).alloc (Nat.le_refl _) (.cells #[.int .i64 t, .int .i64 p] 25))
  clear rd
  cases hg : gp t p
  · have fin : Hid (false = repV xs t p) := Lib.hid (by simp [repV, hg])
    go_enter Try.func20, Try.ntmps20
    go_wp2_with fail
    refine (s_GoodPeriod _ _ _).mono ?_
    rintro e w1 ⟨rfl, b1⟩
    have B1 : Below w.heap.size w w1 := Below.next (by go_grown) b1
    rw [hg]
    go_wp2_with fail
    go_ret
    exact ⟨ret_bool fin.out, B1⟩
  · have hg' := hg
    simp only [gp, Bool.and_eq_true, inB_true] at hg'
    obtain ⟨⟨g1, g2⟩, g3, g4⟩ := hg'
    obtain ⟨t, rfl⟩ := Int.eq_ofNat_of_zero_le g1
    obtain ⟨l, rfl⟩ := Int.eq_ofNat_of_zero_le (show 0 ≤ p by omega)
    have fin : Hid (decide (stl xs l (xs.length - l) ≤ t) = repV xs t l) := Lib.hid (by simp [repV, hg])
    have g2' : t ≤ 300 := by omega
    have g3' : 1 ≤ l := by omega
    have g4' : l ≤ 300 := by omega
    clear g1 g2 g3 g4
    go_enter Try.func20, Try.ntmps20
    go_wp2_with fail
    refine (s_GoodPeriod _ _ _).mono ?_
    rintro e w1 ⟨rfl, b1⟩
    have ca_0 : w1.cell? ⟨w.heap.size, 0, none⟩ = some (.int .i64 t) := bkeep b1 _ _ (by first | assumption | simp [go_sem, *])
    have ca_1 : w1.cell? ⟨w.heap.size, 1, none⟩ = some (.int .i64 l) := bkeep b1 _ _ (by first | assumption | simp [go_sem, *])
    have B1 : Below w.heap.size w w1 := Below.next (by go_grown) b1
    have rd1 := rd'.below b1
    rw [hg]
    go_wp2_with fail
    refine (s_l18Repeats _ _ xs _ _ _ rd1 hn g2' g3' g4').mono ?_
    rintro e w2 ⟨rfl, b2⟩
    have B2 := Below.next B1 b2
    generalize decide (stl xs l (xs.length - l) ≤ t) = m at *
    go_wp2_with fail
    go_ret
    exact ⟨ret_bool fin.out, B2⟩
set_option maxHeartbeats 1600000 in
theorem c_Repeats (A : Option Addr) (c : Nat) (xs : List Int) (t p : Int) (w : World) (rd : RdI w A xs.length xs) (hn : xs.length ≤ 1048576) :
    Calls Try.prog 21 #[.slice A xs.length c, pv t p] w fun e w' => e = .returned (.bool (repV xs t p)) ∧ Below w.heap.size w w' := by
  cases hg : gp t p
  · have fin : Hid (false = repV xs t p) := Lib.hid (by simp [repV, hg])
    go_enter Try.func21, Try.ntmps21
    go_wp2_with fail
    refine wp_region_any (by kernel_rfl) ?_
    try (change wpAny _ _ _ _ _ _ _ (World.drew _))
    refine wpAny_ready (rs := [0]) (by kernel_rfl) (by simp) (AllReady.cons rfl (fun K hK => ?_) AllReady.nil)
    go_simp
    refine hK _ _ ?_
    clear hK K
    refine wpAny_ready (rs := [1]) (by kernel_rfl) (by simp) (AllReady.cons rfl (fun K hK => ?_) AllReady.nil)
    go_simp
    refine (c_GoodPeriod _ _ _).mono ?_
    rintro e w1 ⟨rfl, b1⟩
    rw [hg]
    have B1 : Below w.heap.size w w1 := Below.next (by go_grown) b1
    go_wp2_with fail
    refine wpAny_take (i := 2) (v := .bool false) rfl (by kernel_rfl) (by kernel_rfl) (by kernel_rfl) (fun _ _ _ h => h) (Or.inl ⟨by rfl, by intro w; go_simp⟩) ?_
    refine wpAny_take (i := 3) (v := undef) rfl (by kernel_rfl) (by kernel_rfl) (by kernel_rfl) (fun _ _ _ h => h) (Or.inr ⟨by rfl, rfl⟩) ?_
    refine wpAny_take (i := 4) (v := undef) rfl (by kernel_rfl) (by kernel_rfl) (by kernel_rfl) (fun _ _ _ h => h) (Or.inr ⟨by rfl, rfl⟩) ?_
    refine wpAny_take (i := 7) (v := undef) rfl (by kernel_rfl) (by kernel_rfl) (by kernel_rfl) (fun _ _ _ h => h) (Or.inr ⟨by rfl, rfl⟩) ?_
    refine wpAny_take (i := 5) (v := undef) rfl (by kernel_rfl) (by kernel_rfl) (by kernel_rfl) (fun _ _ _ h => h) (Or.inr ⟨by rfl, rfl⟩) ?_
    refine wpAny_take (i := 8) (v := undef) rfl (by kernel_rfl) (by kernel_rfl) (by kernel_rfl) (fun _ _ _ h => h) (Or.inr ⟨by rfl, rfl⟩) ?_
    refine wpAny_take (i := 6) (v := undef) rfl (by kernel_rfl) (by kernel_rfl) (by kernel_rfl) (fun _ _ _ h => h) (Or.inr ⟨by rfl, rfl⟩) ?_
    refine wpAny_take (i := 9) (v := undef) rfl (by kernel_rfl) (by kernel_rfl) (by kernel_rfl) (fun _ _ _ h => h) (Or.inr ⟨by rfl, rfl⟩) ?_
    refine wpAny_take (i := 10) (v := .bool false) rfl (by kernel_rfl) (by kernel_rfl) (by kernel_rfl) (fun _ _ _ h => h) (Or.inl ⟨by rfl, by intro w; go_simp⟩) ?_
    refine wpAny_take (i := 11) (v := .bool false) rfl (by kernel_rfl) (by kernel_rfl) (by kernel_rfl) (fun _ _ _ h => h) (Or.inl ⟨by rfl, by intro w; go_simp⟩) ?_
    refine wpAny_done (by kernel_rfl) ?_ _
    go_simp
    go_wp2_with fail
    go_ret
    exact ⟨ret_bool fin.out, B1⟩
  · have hg' := hg
    simp only [gp, Bool.and_eq_true, inB_true] at hg'
    obtain ⟨⟨g1, g2⟩, g3, g4⟩ := hg'
    obtain ⟨t, rfl⟩ := Int.eq_ofNat_of_zero_le g1
    obtain ⟨l, rfl⟩ := Int.eq_ofNat_of_zero_le (show 0 ≤ p by omega)
    obtain ⟨m, hm⟩ : ∃ m, Hid (stl xs l (xs.length - l) = m) := ⟨_, Lib.hid rfl⟩
    have fin : Hid (decide (m ≤ t) = repV xs t l) := Lib.hid (by rw [← hm.out]; simp [repV, hg])
    have g2' : t ≤ 300 := by omega
    have g3' : 1 ≤ l := by omega
    have g4' : l ≤ 300 := by omega
    clear g1 g2 g3 g4
    go_enter Try.func21, Try.ntmps21
    go_wp2_with fail
    go_region_held3 (fun w' => w'.cell? ⟨w.heap.size, 0, none⟩ = some (.int .i64 t) ∧ w'.cell? ⟨w.heap.size, 1, none⟩ = some (.int .i64 l)) (go_keep)
      (first | (go_at_call 15; refine (c_GoodPeriod _ _ _).mono ?_; rintro e w1 ⟨rfl, b1⟩; have hk := bkeep b1; have B1 : Below w.heap.size w w1 := Below.next (by go_grown) b1; rw [hg]) | (go_at_call 47; refine (c_settled _ _ xs _ _ (rd.below (by first | assumption | go_grown)) hn g3' g4').mono ?_; rintro e w2 ⟨rfl, q2⟩; have hk := bkeep q2.below; have B2 : Below w.heap.size w w2 := Below.next (by first | assumption | go_grown) q2.below; rw [hm.out]))
    go_wp2_with fail
    go_ret
    exact ⟨ret_bool fin.out, by first | assumption | go_grown⟩
set_option maxHeartbeats 3000000 in
theorem w_FnExactRepeats (A : Option Addr) (n c : Nat) (xs : List Int) (t p : Int) (w : World) (rd : RdV w A n (xs.map (Value.int .i64))) (_f : Fits .i64 xs) (_m : n ≤ maxLen) (_wt : (Lit.int .i64 t).wf = true) (_wp : (Lit.int .i64 p).wf = true) :
    Calls Try.prog 5 #[.slice A n c, pv t p] w fun e w' => e = .returned (.bool true) ∧ Below w.heap.size w w' := by
  have rd : RdI w A n xs := rd
  obtain rfl := rd.len
  clear _m _f _wt _wp
  by_cases hn : xs.length ≤ 1048576
  · obtain ⟨m, Hm⟩ : ∃ m, Hid (repV xs t p = m) := ⟨_, Lib.hid rfl⟩
    go_enter Try.func5, Try.ntmps5
    go_upto_region 3 with fail
    go_cut [5] (fun v5 wx => v5 = .bool m ∧ wx.cell? ⟨w.heap.size, 0, none⟩ = some (.int .i64 t) ∧ wx.cell? ⟨w.heap.size, 1, none⟩ = some (.int .i64 p) ∧ Below w.heap.size w wx)
    case first =>
      go_region_held3 (fun w' => w'.cell? ⟨w.heap.size, 0, none⟩ = some (.int .i64 t) ∧ w'.cell? ⟨w.heap.size, 1, none⟩ = some (.int .i64 p)) (go_keep)
        (first | (go_at_call 14; refine (c_toPeriod _ _ _).mono ?_; rintro e w' ⟨rfl, b⟩; have hk := bkeep b; have B : Below w.heap.size w w' := Below.next (by first | assumption | go_grown) b; try (have r := RdI.below r b)) | (go_at_call 17; refine (c_toIntS _ _ _ xs _ (rd.below (by first | assumption | go_grown)) hn).mono ?_; rintro e w' ⟨g, rfl, _, r, b⟩; have hk := bkeep b; have B : Below w.heap.size w w' := Below.next (by first | assumption | go_grown) b) | (go_at_call 20; refine (s_Repeats _ _ xs _ _ _ (by assumption) hn).mono ?_; rintro e w' ⟨rfl, b⟩; have hk := bkeep b; have B : Below w.heap.size w w' := Below.next (by first | assumption | go_grown) b; rw [Hm.out]))
      all_goals
        go_wp2_with fail
        go_meet
        exact ⟨rfl, by simp [go_sem, *], by simp [go_sem, *], by first | assumption | go_grown⟩
    case rest =>
      obtain ⟨rfl, ca_0, ca_1, B1⟩ := hcut
      go_wp2_with fail
      refine (c_toIntS _ _ _ xs _ (rd.below B1) hn).mono ?_
      rintro e w2 ⟨g2, rfl, _, r2, b2⟩
      have ca_0 : w2.cell? ⟨w.heap.size, 0, none⟩ = some (.int .i64 t) := bkeep b2 _ _ ca_0
      have ca_1 : w2.cell? ⟨w.heap.size, 1, none⟩ = some (.int .i64 p) := bkeep b2 _ _ ca_1
      have B2 := Below.next B1 b2
      go_wp2_with fail
      refine (c_toPeriod _ _ _).mono ?_
      rintro e w3 ⟨rfl, b3⟩
      have B3 := Below.next B2 b3
      have r3 := r2.below b3
      go_wp2_with fail
      refine (c_Repeats _ _ xs _ _ _ r3 hn).mono ?_
      rintro e w4 ⟨rfl, b4⟩
      have B4 := Below.next B3 b4
      have r4 := r3.below b4
      rw [Hm.out]
      go_wp2_with fail
      refine (c_toIntS _ _ _ xs _ (rd.below B4) hn).mono ?_
      rintro e w5 ⟨g5, rfl, _, r5, b5⟩
      have B5 := Below.next B4 b5
      have r5' := r4.below b5
      go_wp2_with fail
      refine (c_eqIntS_same _ _ _ _ _ xs _ r5' r5 hn).mono ?_
      rintro e w6 ⟨rfl, q6⟩
      have B6 := Below.next B5 q6.below
      go_wp2_with fail
      go_ret
      exact ⟨rfl, B6⟩
  · go_enter Try.func5, Try.ntmps5
    go_wp2_with fail
    go_ret
    exact ⟨rfl, by go_grown⟩
end Go.Proofs.Ytnajhlgdncdhbaa
