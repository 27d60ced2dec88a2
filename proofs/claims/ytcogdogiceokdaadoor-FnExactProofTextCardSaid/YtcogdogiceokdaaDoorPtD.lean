/- The walk of the law FnExactProofText. -/
import Derived.Test.YtcogdogiceokdaaDoorPtC
import Derived.Test.YtcogdogiceokdaaDoorFmO
namespace Go.Proofs.YtcogdogiceokdaaDoor
open Go.RowKit

theorem tots_smallP {es : List El} {b : Nat} (h : tots es ≤ b) : ∀ e ∈ es, ∀ r ∈ e.rs, r.xs.length ≤ b := fun e he r hr => by
  have h1 := tots_mem he
  have h2 := El.tot_mem hr
  omega
theorem tots_datsP {es fs : List El} (h : dats es = dats fs) : tots es = tots fs := by rw [← flat_tots, ← flat_tots, h]
set_option maxRecDepth 100000 in
set_option maxHeartbeats 3200000 in
theorem w_FnExactProofText (A : Option Addr) (n c : Nat) (es : List El) (w : World) (ra : RdE 2 2 w A n es) (_fa : ∀ el ∈ es, Fits .i64 el.is ∧ ∀ r ∈ el.rs, r.xs.length ≤ maxLen) (ma : n ≤ maxLen) (ht : Tab w) :
    Calls Tryd.prog 3 #[.agg #[.slice A n c]] w fun e w' => e = .returned (.bool true) ∧ Below w.heap.size w w' := by
  obtain rfl := ra.len
  have RA := Lib.hid ra
  have HT := Lib.hid ht
  have S1 := Lib.hid (fun W (hb : Below w.heap.size w W) => c_szProof A es.length c es 1048576 W (by decide) (by decide) (ra.below hb) ma (fun e he => (_fa e he).2))
  clear ra _fa ma ht
  go_enter Tryd.func3, Tryd.ntmps3
  go_wp2_with fail
  refine (S1.out _ (by go_grown)).mono ?_
  rintro e w2 ⟨x, rfl, hx, b1⟩
  have kA2 : w2.cell? ⟨w.heap.size, 0, none⟩ = some (.slice A es.length c) := bkeep b1 _ _ (by simp [go_sem])
  have B2 : Hid (Below w.heap.size w w2) := Lib.hid (Below.next (by go_grown) b1)
  clear b1 S1
  rcases hx with rfl | ⟨x0, hx⟩
  · go_wp2_with fail
    go_ret
    exact ⟨rfl, B2.out⟩
  have hx' : ¬ x < 0 := by omega
  have hn : es.length ≤ 1048576 := by omega
  have htt : tots es ≤ 1048576 := by omega
  have la := Lib.hid (tots_smallP htt)
  clear hx x0
  have TA := Lib.hid (fun W (hb : Below w.heap.size w W) => c_toProof A c es W (RA.out.below hb) hn la.out)
  obtain ⟨m, hm⟩ : ∃ m, Hid (proofC (dats es) = m) := ⟨_, Lib.hid rfl⟩
  obtain ⟨us, ok⟩ := m
  have US : Hid (∀ W g es1, RdE 2 2 W (some ⟨g, 0, none⟩) es.length es1 → dats es1 = dats es → Calls Tryd.prog 6 #[.agg #[.slice (some ⟨g, 0, none⟩) es.length es.length]] W fun e w' => e = .returned (tv (us, ok)) ∧ Below W.heap.size W w') := Lib.hid (fun W g es1 r1 d1 => by
    have := s_ProofText (some ⟨g, 0, none⟩) es.length es.length es1 W r1 hn (by rw [tots_datsP d1]; exact htt) (tots_smallP (by rw [tots_datsP d1]; exact htt))
    rw [d1, hm.out] at this
    exact this)
  have UC : Hid (∀ W g es1, RdE 2 2 W (some ⟨g, 0, none⟩) es.length es1 → dats es1 = dats es → Tab W → Calls Tryd.prog 8 #[.agg #[.slice (some ⟨g, 0, none⟩) es.length es.length]] W fun e w' => e = .returned (tv (us, ok)) ∧ Below W.heap.size W w') := Lib.hid (fun W g es1 r1 d1 t1 => by
    have := c_ProofText (some ⟨g, 0, none⟩) es.length es.length es1 W r1 hn (by rw [tots_datsP d1]; exact htt) (tots_smallP (by rw [tots_datsP d1]; exact htt)) t1
    rw [d1, hm.out] at this
    exact this)
  go_wp2_with fail
  refine (TA.out _ B2.out).mono ?_
  rintro e w3 ⟨g3, es3, rfl, o3, d3, b3⟩
  have kA3 := bkeep b3 _ _ kA2
  have B3 := Lib.hid (Below.next B2.out b3)
  have U3 := Lib.hid (US.out w3 g3 es3 o3.rd d3)
  clear o3 d3 b3 kA2 B2 US
  go_wp2_with fail
  refine U3.out.mono ?_
  rintro e w4 ⟨rfl, b4⟩
  have kA4 := bkeep b4 _ _ kA3
  have B4 := Lib.hid (Below.next B3.out b4)
  have lA4 : w.heap.size < w4.heap.size := cell_lt kA4
  clear b4 kA3 B3 U3
  go_wp2_with fail
  refine (TA.out _ B4.out).mono ?_
  rintro e w5 ⟨g5, es5, rfl, o5, d5, b5⟩
  have O5 := Lib.hid o5
  have D5 := Lib.hid d5
  have C5 := Lib.hid b5
  have kA5 := bkeep b5 _ _ kA4
  have lA5 : w.heap.size < w5.heap.size := cell_lt kA5
  have nA5 : ¬ w.heap.size = w5.heap.size := by omega
  have nA5' : ¬ w5.heap.size = w.heap.size := by omega
  have B5 := Lib.hid (Below.next B4.out b5)
  clear o5 d5 b5
  go_wp2_with fail
  have Bx : Hid (Below w5.heap.size w5 (w5.alloc (.cells #[.slice (some ⟨g5, 0, none⟩) es.length es.length] 30))) := Lib.hid ((Below.refl _ _).alloc (Nat.le_refl _) _)
  refine (UC.out _ g5 es5 (O5.out.rd.below Bx.out) D5.out (HT.out.below (Below.next B5.out Bx.out))).mono ?_
  rintro e w6 ⟨rfl, b6⟩
  have kx6 : w6.cell? ⟨w5.heap.size, 0, none⟩ = some (.slice (some ⟨g5, 0, none⟩) es.length es.length) := bkeep b6 _ _ (by simp [go_sem])
  have C56 := Lib.hid (Below.next Bx.out b6)
  have C6 := Lib.hid (Below.next C5.out C56.out)
  have kA7 := bkeep C6.out _ _ kA4
  have TA7 := Lib.hid (fun W (hb : Below w6.heap.size w6 W) => TA.out W (Below.next (Below.next B4.out C6.out) hb))
  have EQ7 : Hid (∀ W g' es', Below w6.heap.size w6 W → RdE 2 2 W (some ⟨g', 0, none⟩) es.length es' → dats es' = dats es →
    Calls Tryd.prog 9 #[.agg #[.slice (some ⟨g5, 0, none⟩) es.length es.length], .agg #[.slice (some ⟨g', 0, none⟩) es.length es.length]] W fun e w' => e = .returned (.bool true) ∧ Below W.heap.size W w') :=
    Lib.hid (fun W g' es' hb r d => c_eqProof (some ⟨g5, 0, none⟩) (some ⟨g', 0, none⟩) es.length es.length es5 es' es.length W ((O5.out.rd.below C56.out).below hb) r (D5.out.trans d.symm) hn (tots_smallP (by rw [tots_datsP D5.out]; exact htt)))
  clear b6 kA5 Bx C5 UC
  go_upto_region 10 with fail
  go_cut [39] (fun v wx => ∃ wy, wy = wx ∧ v = .bool false ∧ Hid (Below w6.heap.size w6 wy))
  case first =>
    go_region_held3 (fun w' => w'.cell? ⟨w5.heap.size, 0, none⟩ = some (.slice (some ⟨g5, 0, none⟩) es.length es.length) ∧ w'.cell? ⟨w.heap.size, 0, none⟩ = some (.slice A es.length c) ∧ Below w6.heap.size w6 w')
      (first | (refine ⟨?_, ?_, ?_⟩ <;> first | go_keep | exact (Below.refl _ _).drew | exact Below.next (And.right (And.right (by assumption))) (by assumption)))
      (first
        | (go_at_call 7; refine (TA7.out _ (And.right (And.right (by assumption)))).mono ?_; rintro e w' ⟨g, es', rfl, o, dd, b⟩; have hk := bkeep b)
        | (go_at_call 9; refine (EQ7.out _ _ _ (And.right (And.right (by assumption))) (by first | exact OwnE.rd (by assumption) | exact (OwnE.rd (by assumption)).below (by assumption)) (by assumption)).mono ?_; rintro e w' ⟨rfl, b⟩; have hk := bkeep b))
    all_goals
      go_wp2_with fail
      go_meet
      case rel => exact ⟨_, rfl, rfl, Lib.hid (And.right (And.right (by assumption)))⟩
  case rest =>
    obtain ⟨w8, rfl, rfl, b8⟩ := hcut
    have C8 := Lib.hid (Below.next C6.out b8.out)
    go_wp2_with fail
    go_ret
    exact ⟨rfl, Below.next B4.out C8.out⟩
end Go.Proofs.YtcogdogiceokdaaDoor
