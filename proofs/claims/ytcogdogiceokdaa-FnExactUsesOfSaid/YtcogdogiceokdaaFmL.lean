/- The walk of the law FnExactUsesOf. -/
import Derived.Test.YtcogdogiceokdaaFmK
import Derived.Test.YtcogdogiceokdaaFmO
namespace Go.Proofs.Ytcogdogiceokdaa
open Go.RowKit

theorem tots_smallC {es : List El} {b : Nat} (h : tots es ≤ b) : ∀ e ∈ es, ∀ r ∈ e.rs, r.xs.length ≤ b := fun e he r hr => by
  have h1 := tots_mem he
  have h2 := El.tot_mem hr
  omega
theorem tots_dats {es fs : List El} (h : dats es = dats fs) : tots es = tots fs := by rw [← flat_tots, ← flat_tots, h]
theorem useC_len (ds : List Dat) : (useC ds).1.length ≤ 200 := by
  unfold useC
  split
  · rename_i h
    rw [cnt_len]
    exact (shape_iff.1 h).1
  · simp
set_option maxRecDepth 100000 in
set_option maxHeartbeats 3200000 in
theorem w_FnExactUsesOf (A : Option Addr) (n c : Nat) (es : List El) (w : World) (ra : RdE 2 2 w A n es) (_fa : ∀ el ∈ es, Fits .i64 el.is ∧ ∀ r ∈ el.rs, r.xs.length ≤ maxLen) (ma : n ≤ maxLen) :
    Calls Try.prog 5 #[.agg #[.slice A n c]] w fun e w' => e = .returned (.bool true) ∧ Below w.heap.size w w' := by
  obtain rfl := ra.len
  have RA := Lib.hid ra
  have S1 := Lib.hid (fun W (hb : Below w.heap.size w W) => c_szProof A es.length c es 1048576 W (by decide) (by decide) (ra.below hb) ma (fun e he => (_fa e he).2))
  clear ra _fa ma
  go_enter Try.func5, Try.ntmps5
  go_wp2_with fail
  refine (S1.out _ (by go_grown)).mono ?_
  rintro e w2 ⟨x, rfl, hx, b1⟩
  have kA2 : w2.cell? ⟨w.heap.size, 0, none⟩ = some (.slice A es.length c) := bkeep b1 _ _ (by simp [go_sem])
  have B2 : Hid (Below w.heap.size w w2) := Lib.hid (Below.next (by go_grown) b1)
  clear b1 S1
  rcases hx with rfl | ⟨x0, hx⟩
  · go_wp2_with fail
    go_ret
    exact ⟨rfl, B2.out⟩
  have hx' : ¬ x < 0 := by omega
  have hn : es.length ≤ 1048576 := by omega
  have htt : tots es ≤ 1048576 := by omega
  have la := Lib.hid (tots_smallC htt)
  clear hx x0
  have TA := Lib.hid (fun W (hb : Below w.heap.size w W) => c_toProof A c es W (RA.out.below hb) hn la.out)
  obtain ⟨m, hm⟩ : ∃ m, Hid (useC (dats es) = m) := ⟨_, Lib.hid rfl⟩
  have hul : m.1.length ≤ 200 := by rw [← hm.out]; exact useC_len _
  obtain ⟨us, ok⟩ := m
  simp only at hul
  have US : Hid (∀ W g es1, RdE 2 2 W (some ⟨g, 0, none⟩) es.length es1 → dats es1 = dats es → Calls Try.prog 17 #[.agg #[.slice (some ⟨g, 0, none⟩) es.length es.length]] W (ListP W (us, ok))) := Lib.hid (fun W g es1 r1 d1 => by
    have := s_UsesOf (some ⟨g, 0, none⟩) es.length es.length es1 W r1 hn (tots_smallC (by rw [tots_dats d1]; exact htt)) (by rw [tots_dats d1]; exact htt)
    rw [d1, hm.out] at this
    exact this)
  have UC : Hid (∀ W g es1, RdE 2 2 W (some ⟨g, 0, none⟩) es.length es1 → dats es1 = dats es → Calls Try.prog 19 #[.agg #[.slice (some ⟨g, 0, none⟩) es.length es.length]] W (ListP W (us, ok))) := Lib.hid (fun W g es1 r1 d1 => by
    have := c_UsesOf (some ⟨g, 0, none⟩) es.length es.length es1 W r1 hn (tots_smallC (by rw [tots_dats d1]; exact htt)) (by rw [tots_dats d1]; exact htt)
    rw [d1, hm.out] at this
    exact this)
  go_wp2_with fail
  refine (TA.out _ B2.out).mono ?_
  rintro e w3 ⟨g3, es3, rfl, o3, d3, b3⟩
  have kA3 := bkeep b3 _ _ kA2
  have B3 := Lib.hid (Below.next B2.out b3)
  have U3 := Lib.hid (US.out w3 g3 es3 o3.rd d3)
  clear o3 d3 b3 kA2 B2 US
  go_wp2_with fail
  refine U3.out.mono ?_
  rintro e w4 ⟨A4, c4, rfl, o4, b4⟩
  have kA4 := bkeep b4 _ _ kA3
  have B4 := Lib.hid (Below.next B3.out b4)
  have R4 := Lib.hid (OwnI.rd o4)
  have lA4 : w.heap.size < w4.heap.size := cell_lt kA4
  simp only at R4 ⊢
  clear o4 b4 kA3 B3 U3
  go_wp2_with fail
  refine (TA.out _ B4.out).mono ?_
  rintro e w5 ⟨g5, es5, rfl, o5, d5, b5⟩
  have O5 := Lib.hid o5
  have D5 := Lib.hid d5
  have C5 := Lib.hid b5
  have lg5 := Lib.hid o5.low
  have lg5' := Lib.hid o5.row.lt
  have T5 : Hid (∀ e ∈ es5, ∀ r ∈ e.rs, There (g5 + 1) w5.heap.size w5 r.A r.xs.length) := Lib.hid (fun e he r hr => There.of_own (o5.rows e he r hr) (Nat.le_refl _))
  have kA5 := bkeep b5 _ _ kA4
  have lA5 : w.heap.size < w5.heap.size := cell_lt kA5
  have nA5 : ¬ w.heap.size = w5.heap.size := by omega
  have nA5' : ¬ w5.heap.size = w.heap.size := by omega
  clear o5 d5 b5
  go_wp2_with fail
  have Bx : Hid (Below w5.heap.size w5 (w5.alloc (.cells #[.slice (some ⟨g5, 0, none⟩) es.length es.length] 48))) := Lib.hid ((Below.refl _ _).alloc (Nat.le_refl _) _)
  refine (UC.out _ g5 es5 (O5.out.rd.below (show Below w5.heap.size w5 _ by go_grown)) D5.out).mono ?_
  rintro e w6 ⟨A6, c6, rfl, o6, b6⟩
  have kx6 : w6.cell? ⟨w5.heap.size, 0, none⟩ = some (.slice (some ⟨g5, 0, none⟩) es.length es.length) := bkeep b6 _ _ (by simp [go_sem])
  have C56 := Lib.hid (Below.next (show Below w5.heap.size w5 _ by go_grown) b6)
  have C6 := Lib.hid (Below.next C5.out C56.out)
  have O6 : Hid (OwnI w6 (w5.heap.size + 1) A6 c6 us) := Lib.hid (own_low o6 (by simp))
  simp only at O6 ⊢
  clear o6 b6 kA5 Bx C5
  go_wp2_with fail
  refine (c_eqIntS_same A6 A4 _ c6 c4 us w6 (OwnI.rd O6.out) (R4.out.below C6.out) (by omega)).mono ?_
  rintro e w7 ⟨rfl, q7⟩
  have kx7 := bkeep q7.below _ _ kx6
  have C57 := Lib.hid (Below.next C56.out q7.below)
  have C7 := Lib.hid (Below.next C6.out q7.below)
  have kA7 := bkeep C7.out _ _ kA4
  have O7 := Lib.hid (own_below O6.out q7.below)
  have TA7 := Lib.hid (fun W (hb : Below w7.heap.size w7 W) => TA.out W (Below.next (Below.next B4.out C7.out) hb))
  have EQ7 : Hid (∀ W g' es', Below w7.heap.size w7 W → RdE 2 2 W (some ⟨g', 0, none⟩) es.length es' → dats es' = dats es →
    Calls Try.prog 21 #[.agg #[.slice (some ⟨g5, 0, none⟩) es.length es.length], .agg #[.slice (some ⟨g', 0, none⟩) es.length es.length]] W fun e w' => e = .returned (.bool true) ∧ Below W.heap.size W w') :=
    Lib.hid (fun W g' es' hb r d => c_eqProof (some ⟨g5, 0, none⟩) (some ⟨g', 0, none⟩) es.length es.length es5 es' es.length W ((O5.out.rd.below C57.out).below hb) r (D5.out.trans d.symm) hn (tots_smallC (by rw [tots_dats D5.out]; exact htt)))
  clear q7 kx6 C56 C6 O6
  go_upto_region 10 with fail
  go_cut [45] (fun v wx => ∃ wy, wy = wx ∧ v = .bool false ∧ wy.cell? ⟨w5.heap.size, 0, none⟩ = some (.slice (some ⟨g5, 0, none⟩) es.length es.length) ∧ Hid (Below w7.heap.size w7 wy))
  case first =>
    go_region_held3 (fun w' => w'.cell? ⟨w5.heap.size, 0, none⟩ = some (.slice (some ⟨g5, 0, none⟩) es.length es.length) ∧ w'.cell? ⟨w.heap.size, 0, none⟩ = some (.slice A es.length c) ∧ Below w7.heap.size w7 w')
      (first | (refine ⟨?_, ?_, ?_⟩ <;> first | go_keep | exact (Below.refl _ _).drew | exact Below.next (And.right (And.right (by assumption))) (by assumption)))
      (first
        | (go_at_call 18; refine (TA7.out _ (And.right (And.right (by assumption)))).mono ?_; rintro e w' ⟨g, es', rfl, o, dd, b⟩; have hk := bkeep b)
        | (go_at_call 21; refine (EQ7.out _ _ _ (And.right (And.right (by assumption))) (by first | exact OwnE.rd (by assumption) | exact (OwnE.rd (by assumption)).below (by assumption)) (by assumption)).mono ?_; rintro e w' ⟨rfl, b⟩; have hk := bkeep b))
    all_goals
      go_wp2_with fail
      go_meet
      case rel => exact ⟨_, rfl, rfl, And.left (by assumption), Lib.hid (And.right (And.right (by assumption)))⟩
  case rest =>
    obtain ⟨w8, rfl, rfl, kx8, b8⟩ := hcut
    have C58 := Lib.hid (Below.next C57.out b8.out)
    have C8 := Lib.hid (Below.next C7.out b8.out)
    have O8 := Lib.hid (own_below O7.out b8.out)
    have MK := Lib.hid (c_markProof w4.heap.size w5.heap.size g5 es.length es5 1 w8 (O5.out.below C58.out) lg5'.out (fun e he r hr => (T5.out e he r hr).below C58.out) hn (by rw [tots_dats D5.out]; exact htt) (by decide) (by decide))
    rw [tots_dats D5.out] at MK
    clear TA7 EQ7 kx7 kA7 b8 C57 C7 O7 C58
    go_wp2_with fail
    refine MK.out.mono ?_
    rintro e w9 ⟨rfl, v9⟩
    have C8' : Hid (Below w4.heap.size w4 (w8.alloc (.cells #[.slice (some ⟨g5, 0, none⟩) es.length es.length] 48))) := Lib.hid (C8.out.alloc C8.out.size _)
    have C9 := Lib.hid (v9.below C8'.out lg5.out)
    have O9 : Hid (OwnI w9 (w5.heap.size + 1) A6 c6 us) := Lib.hid (v9.own (own_below O8.out (show Below w8.heap.size w8 _ from (Below.refl _ _).alloc (Nat.le_refl _) _)) (by omega))
    have hk0 : ¬ (1 : Int) + 2 * (es.length : Int) + (tots es : Int) < 0 := by omega
    clear v9 MK C8 C8' O8 kx8
    go_wp2_with fail
    refine (c_eqIntS_same A6 A4 _ c6 c4 us w9 (OwnI.rd O9.out) (R4.out.below C9.out) (by omega)).mono ?_
    rintro e w10 ⟨rfl, q10⟩
    have C10 := Lib.hid (Below.next C9.out q10.below)
    have O10 : Hid (OwnI w10 (w5.heap.size + 1) A6 c6 us) := Lib.hid (own_below O9.out q10.below)
    clear q10 C9 O9
    have MI := Lib.hid (c_markIntS A6 c6 (w5.heap.size + 1) us 1 w10 O10.out (by omega) (by decide) (by decide))
    go_wp2_with fail
    refine MI.out.mono ?_
    rintro e w11 ⟨rfl, o11, k11⟩
    have C11 : Hid (Below w4.heap.size w4 w11) := Lib.hid (C10.out.grown k11 C10.out.size (fun j hj => by
      have h1 := (O10.out.lt j hj).1
      have h2 := lg5.out
      have h3 := lg5'.out
      omega))
    have R11 : Hid (RdI w11 A6 us.length (mks 1 us.length)) := Lib.hid (RdV.of_own o11)
    clear o11 k11 MI C10 O10
    go_wp2_with fail
    refine (c_heldIntS A6 us.length c6 1 w11 R11.out (by omega) (by decide) (by decide)).mono ?_
    rintro e w' ⟨rfl, rfl⟩
    have kA11 := bkeep C11.out _ _ kA4
    have h1u : ¬ (1 : Int) + (us.length : Int) < 0 := by omega
    go_wp2_with fail
    refine (TA.out _ (Below.next B4.out C11.out)).mono ?_
    rintro e w12 ⟨g12, es12, rfl, o12, d12, b12⟩
    have C12 := Lib.hid (Below.next C11.out b12)
    have R12 := Lib.hid (R11.out.below b12)
    have U12 := Lib.hid (UC.out w12 g12 es12 o12.rd d12)
    clear o12 d12 b12 C11 R11 kA11 UC
    go_wp2_with fail
    refine U12.out.mono ?_
    rintro e w13 ⟨A13, c13, rfl, o13, b13⟩
    have C13 := Lib.hid (Below.next C12.out b13)
    have R13 := Lib.hid (R12.out.below b13)
    have RX := Lib.hid (OwnI.rd o13)
    simp only at RX ⊢
    clear o13 b13 C12 R12 U12
    go_wp2_with fail
    refine (c_eqIntS_same A13 A4 _ c13 c4 us w13 RX.out (R4.out.below C13.out) (by omega)).mono ?_
    rintro e w14 ⟨rfl, q14⟩
    have C14 := Lib.hid (Below.next C13.out q14.below)
    have R14 := Lib.hid (R13.out.below q14.below)
    clear q14 C13 R13
    go_wp2_with fail
    refine (c_heldIntS A6 us.length c6 1 w14 R14.out (by omega) (by decide) (by decide)).mono ?_
    rintro e w' ⟨rfl, rfl⟩
    go_wp2_with fail
    go_ret
    exact ⟨rfl, Below.next B4.out C14.out⟩
end Go.Proofs.Ytcogdogiceokdaa
