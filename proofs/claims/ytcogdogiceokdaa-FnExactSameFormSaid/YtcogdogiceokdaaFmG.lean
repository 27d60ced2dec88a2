/- The walk of the law FnExactSameForm. -/
import Derived.Test.YtcogdogiceokdaaFmF
import Derived.Test.YtcogdogiceokdaaFmO
namespace Go.Proofs.Ytcogdogiceokdaa
open Go.RowKit

theorem tots_small {es : List El} {b : Nat} (h : tots es ≤ b) : ∀ e ∈ es, ∀ r ∈ e.rs, r.xs.length ≤ b := fun e he r hr => by
  have h1 := tots_mem he
  have h2 := El.tot_mem hr
  omega
theorem dats_rows {es fs : List El} {b : Nat} (hd : dats es = dats fs) (h : ∀ e ∈ fs, ∀ r ∈ e.rs, r.xs.length ≤ b) : ∀ e ∈ es, ∀ r ∈ e.rs, r.xs.length ≤ b := fun e he r hr => by
  have h1 : e.dat ∈ dats fs := by rw [← hd]; exact List.mem_map_of_mem he
  obtain ⟨e', he', h2⟩ := List.mem_map.1 h1
  have h3 : r.xs ∈ e'.rs.map Row.xs := by
    have : e'.rs.map Row.xs = e.rs.map Row.xs := congrArg Prod.snd h2
    rw [this]
    exact List.mem_map_of_mem hr
  obtain ⟨r', hr', h4⟩ := List.mem_map.1 h3
  have := h e' he' r' hr'
  rw [h4] at this
  exact this
set_option maxRecDepth 100000 in
set_option maxHeartbeats 3200000 in
theorem w_FnExactSameForm (A : Option Addr) (n c : Nat) (es : List El) (B : Option Addr) (m d : Nat) (fs : List El) (w : World) (ra : RdE 0 2 w A n es) (_fa : ∀ el ∈ es, Fits .i64 el.is ∧ ∀ r ∈ el.rs, r.xs.length ≤ maxLen) (ma : n ≤ maxLen)
    (rb : RdE 0 2 w B m fs) (_fb : ∀ el ∈ fs, Fits .i64 el.is ∧ ∀ r ∈ el.rs, r.xs.length ≤ maxLen) (mb : m ≤ maxLen) :
    Calls Try.prog 4 #[.agg #[.slice A n c], .agg #[.slice B m d]] w fun e w' => e = .returned (.bool true) ∧ Below w.heap.size w w' := by
  obtain rfl := ra.len
  obtain rfl := rb.len
  have RA := Lib.hid ra
  have RB := Lib.hid rb
  have S1 := Lib.hid (fun W (hb : Below w.heap.size w W) => c_szForm A es.length c es 1048576 W (by decide) (by decide) (ra.below hb) ma (fun e he => (_fa e he).2))
  have S2 := Lib.hid (fun W (hb : Below w.heap.size w W) (l : Int) (h0 : 0 ≤ l) (h1 : l ≤ 1048576) => c_szForm B fs.length d fs l W h0 h1 (rb.below hb) mb (fun e he => (_fb e he).2))
  clear ra rb _fa _fb ma mb
  go_enter Try.func4, Try.ntmps4
  go_wp2_with fail
  refine (S1.out _ (by go_grown)).mono ?_
  rintro e w1 ⟨x, rfl, hx, b1⟩
  have kA1 : w1.cell? ⟨w.heap.size, 0, none⟩ = some (.slice A es.length c) := bkeep b1 _ _ (by simp [go_sem])
  have kB1 : w1.cell? ⟨w.heap.size + 1, 0, none⟩ = some (.slice B fs.length d) := bkeep b1 _ _ (by simp [go_sem])
  have B1 : Hid (Below w.heap.size w w1) := Lib.hid (Below.next (by go_grown) b1)
  clear b1 S1
  rcases hx with rfl | ⟨x0, hx⟩
  · go_wp2_with fail
    go_ret
    exact ⟨rfl, B1.out⟩
  have x1 : x ≤ 1048576 := by omega
  have hx' : ¬ x < 0 := by omega
  have HX := Lib.hid hx
  clear hx
  have S2' := Lib.hid (S2.out w1 B1.out x x0 x1)
  clear S2
  go_wp2_with fail
  refine S2'.out.mono ?_
  rintro e w2 ⟨y, rfl, hy, b2⟩
  have kA2 : w2.cell? ⟨w.heap.size, 0, none⟩ = some (.slice A es.length c) := bkeep b2 _ _ kA1
  have kB2 : w2.cell? ⟨w.heap.size + 1, 0, none⟩ = some (.slice B fs.length d) := bkeep b2 _ _ kB1
  have B2 : Hid (Below w.heap.size w w2) := Lib.hid (Below.next B1.out b2)
  clear b2 S2' kA1 kB1 B1
  rcases hy with rfl | ⟨y0, hy⟩
  · go_wp2_with fail
    go_ret
    exact ⟨rfl, B2.out⟩
  have hy' : ¬ y < 0 := by omega
  have hn : es.length ≤ 1048576 := by have := HX.out; omega
  have hm : fs.length ≤ 1048576 := by omega
  have la := Lib.hid (tots_small (es := es) (b := 1048576) (by have := HX.out; omega))
  have lb := Lib.hid (tots_small (es := fs) (b := 1048576) (by omega))
  clear hy HX x0 x1 y0
  have TA := Lib.hid (fun W (hb : Below w.heap.size w W) => c_toForm A c es W (RA.out.below hb) hn la.out)
  have TB := Lib.hid (fun W (hb : Below w.heap.size w W) => c_toForm B d fs W (RB.out.below hb) hm lb.out)
  obtain ⟨z, hz⟩ : ∃ z, Hid (decide (dats es = dats fs) = z) := ⟨_, Lib.hid rfl⟩
  have SF : Hid (∀ W g1 g2 es1 es2, RdE 0 2 W (some ⟨g1, 0, none⟩) es.length es1 → RdE 0 2 W (some ⟨g2, 0, none⟩) fs.length es2 → dats es1 = dats es → dats es2 = dats fs →
      Calls Try.prog 12 #[.agg #[.slice (some ⟨g1, 0, none⟩) es.length es.length], .agg #[.slice (some ⟨g2, 0, none⟩) fs.length fs.length]] W fun e w' => e = .returned (.bool z) ∧ Below W.heap.size W w') := Lib.hid (fun W g1 g2 es1 es2 r1 r2 d1 d2 => by
    have := s_SameForm (some ⟨g1, 0, none⟩) (some ⟨g2, 0, none⟩) es.length fs.length es1 es2 es.length fs.length W r1 r2 hn hm (dats_rows d1 la.out) (dats_rows d2 lb.out)
    rw [d1, d2, hz.out] at this
    exact this)
  have CF : Hid (∀ W g1 g2 es1 es2, RdE 0 2 W (some ⟨g1, 0, none⟩) es.length es1 → RdE 0 2 W (some ⟨g2, 0, none⟩) fs.length es2 → dats es1 = dats es → dats es2 = dats fs →
      Calls Try.prog 14 #[.agg #[.slice (some ⟨g1, 0, none⟩) es.length es.length], .agg #[.slice (some ⟨g2, 0, none⟩) fs.length fs.length]] W fun e w' => e = .returned (.bool z) ∧ Below W.heap.size W w') := Lib.hid (fun W g1 g2 es1 es2 r1 r2 d1 d2 => by
    have := c_SameForm (some ⟨g1, 0, none⟩) (some ⟨g2, 0, none⟩) es.length fs.length es1 es2 es.length fs.length W r1 r2 hn hm (dats_rows d1 la.out) (dats_rows d2 lb.out)
    rw [d1, d2, hz.out] at this
    exact this)
  have EQ : Hid (∀ (ls : List El) W g1 g2 es1 es2, ls.length ≤ 1048576 → (∀ e ∈ ls, ∀ r ∈ e.rs, r.xs.length ≤ 1048576) → RdE 0 2 W (some ⟨g1, 0, none⟩) ls.length es1 → RdE 0 2 W (some ⟨g2, 0, none⟩) ls.length es2 → dats es1 = dats ls → dats es2 = dats ls →
      Calls Try.prog 15 #[.agg #[.slice (some ⟨g1, 0, none⟩) ls.length ls.length], .agg #[.slice (some ⟨g2, 0, none⟩) ls.length ls.length]] W fun e w' => e = .returned (.bool true) ∧ Below W.heap.size W w') := Lib.hid (fun ls W g1 g2 es1 es2 h1 h2 r1 r2 d1 d2 =>
    c_eqForm (some ⟨g1, 0, none⟩) (some ⟨g2, 0, none⟩) ls.length ls.length es1 es2 ls.length W r1 r2 (d1.trans d2.symm) h1 (dats_rows d1 h2))
  go_upto_region 8 with fail
  go_cut [6] (fun v wx => ∃ wy, wy = wx ∧ v = .bool z ∧ wy.cell? ⟨w.heap.size, 0, none⟩ = some (.slice A es.length c) ∧ wy.cell? ⟨w.heap.size + 1, 0, none⟩ = some (.slice B fs.length d) ∧ Hid (Below w.heap.size w wy))
  case first =>
    go_region_held3 (fun w' => w'.cell? ⟨w.heap.size, 0, none⟩ = some (.slice A es.length c) ∧ w'.cell? ⟨w.heap.size + 1, 0, none⟩ = some (.slice B fs.length d) ∧ Below w.heap.size w w')
      (first | (refine ⟨?_, ?_, ?_⟩ <;> first | go_keep | exact B2.out.drew | exact Below.next (And.right (And.right (by assumption))) (by assumption)))
      (first
        | (go_at_call_of 13 (Value.agg #[Value.slice A es.length c]); refine (TA.out _ (And.right (And.right (by assumption)))).mono ?_; rintro e w' ⟨g, es', rfl, o, dd, b⟩; have hk := bkeep b)
        | (go_at_call_of 13 (Value.agg #[Value.slice B fs.length d]); refine (TB.out _ (And.right (And.right (by assumption)))).mono ?_; rintro e w' ⟨g, es', rfl, o, dd, b⟩; have hk := bkeep b)
        | (go_at_call 12; refine (SF.out _ _ _ _ _ (by first | exact OwnE.rd (by assumption) | exact (OwnE.rd (by assumption)).below (by assumption)) (by first | exact OwnE.rd (by assumption) | exact (OwnE.rd (by assumption)).below (by assumption)) (by assumption) (by assumption)).mono ?_; rintro e w' ⟨rfl, b⟩; have hk := bkeep b))
    all_goals
      go_wp2_with fail
      go_meet
      case rel => exact ⟨_, rfl, rfl, And.left (by assumption), And.left (And.right (by assumption)), Lib.hid (And.right (And.right (by assumption)))⟩
  case rest =>
    obtain ⟨wy, rfl, rfl, kA, kB, hb⟩ := hcut
    clear kA2 kB2 B2 SF
    go_wp2_with fail
    refine (TA.out _ hb.out).mono ?_
    rintro e w3 ⟨g1, es1, rfl, o1, d1, b3⟩
    have kA3 := bkeep b3 _ _ kA
    have kB3 := bkeep b3 _ _ kB
    have B3 := Lib.hid (Below.next hb.out b3)
    have O1 := Lib.hid o1
    have D1 := Lib.hid d1
    have lA3 : w.heap.size < w3.heap.size := cell_lt kA3
    have lB3 : w.heap.size + 1 < w3.heap.size := cell_lt kB3
    have nA3 : ¬ w.heap.size = w3.heap.size := by omega
    have nA3' : ¬ w3.heap.size = w.heap.size := by omega
    have nB3 : ¬ w.heap.size + 1 = w3.heap.size := by omega
    have nB3' : ¬ w3.heap.size = w.heap.size + 1 := by omega
    clear o1 d1 b3 kA kB hb
    go_wp2_with fail
    refine (TB.out _ (Below.next B3.out (show Below w3.heap.size w3 _ by go_grown))).mono ?_
    rintro e w4 ⟨g2, es2, rfl, o2, d2, b4⟩
    have kA4 := bkeep b4 _ _ (bkeep (show Below w3.heap.size w3 _ by go_grown) _ _ kA3)
    have kB4 := bkeep b4 _ _ (bkeep (show Below w3.heap.size w3 _ by go_grown) _ _ kB3)
    have kx4 : w4.cell? ⟨w3.heap.size, 0, none⟩ = some (.slice (some ⟨g1, 0, none⟩) es.length es.length) := bkeep b4 _ _ (by simp [go_sem])
    have B4 := Lib.hid (Below.next (Below.next B3.out (show Below w3.heap.size w3 _ by go_grown)) b4)
    have O1' := Lib.hid ((O1.out.below (show Below w3.heap.size w3 _ by go_grown)).below b4)
    have O2 := Lib.hid o2
    have D2 := Lib.hid d2
    have lA4 : w.heap.size < w4.heap.size := cell_lt kA4
    have lB4 : w.heap.size + 1 < w4.heap.size := cell_lt kB4
    have lx4 : w3.heap.size < w4.heap.size := cell_lt kx4
    have nx4 : ¬ w3.heap.size = w4.heap.size := by omega
    have nx4' : ¬ w4.heap.size = w3.heap.size := by omega
    clear o2 d2 b4 kA3 kB3 B3 O1
    go_wp2_with fail
    refine (CF.out _ g1 g2 es1 es2 (O1'.out.rd.below (show Below w4.heap.size w4 _ by go_grown)) (O2.out.rd.below (show Below w4.heap.size w4 _ by go_grown)) D1.out D2.out).mono ?_
    rintro e w5 ⟨rfl, b5⟩
    have kA5 := bkeep b5 _ _ (bkeep (show Below w4.heap.size w4 _ by go_grown) _ _ kA4)
    have kB5 := bkeep b5 _ _ (bkeep (show Below w4.heap.size w4 _ by go_grown) _ _ kB4)
    have kx5 := bkeep b5 _ _ (bkeep (show Below w4.heap.size w4 _ by go_grown) _ _ kx4)
    have ky5 : w5.cell? ⟨w4.heap.size, 0, none⟩ = some (.slice (some ⟨g2, 0, none⟩) fs.length fs.length) := bkeep b5 _ _ (by simp [go_sem])
    have B5 := Lib.hid (Below.next (Below.next B4.out (show Below w4.heap.size w4 _ by go_grown)) b5)
    have R1 := Lib.hid ((O1'.out.rd.below (show Below w4.heap.size w4 _ by go_grown)).below b5)
    have R2 := Lib.hid ((O2.out.rd.below (show Below w4.heap.size w4 _ by go_grown)).below b5)
    clear b5 kA4 kB4 kx4 B4 O1' O2 CF
    have TA5 := Lib.hid (fun W (hb : Below w5.heap.size w5 W) => TA.out W (Below.next B5.out hb))
    have EQ5 : Hid (∀ W g' es', Below w5.heap.size w5 W → RdE 0 2 W (some ⟨g', 0, none⟩) es.length es' → dats es' = dats es →
      Calls Try.prog 15 #[.agg #[.slice (some ⟨g1, 0, none⟩) es.length es.length], .agg #[.slice (some ⟨g', 0, none⟩) es.length es.length]] W fun e w' => e = .returned (.bool true) ∧ Below W.heap.size W w') :=
      Lib.hid (fun W g' es' hb r d => EQ.out es W g1 g' es1 es' hn la.out (R1.out.below hb) r D1.out d)
    go_upto_region 14 with fail
    go_cut [39] (fun v wx => ∃ wy, wy = wx ∧ v = .bool false ∧ wy.cell? ⟨w.heap.size + 1, 0, none⟩ = some (.slice B fs.length d) ∧ wy.cell? ⟨w4.heap.size, 0, none⟩ = some (.slice (some ⟨g2, 0, none⟩) fs.length fs.length) ∧ Hid (Below w5.heap.size w5 wy))
    case first =>
      go_region_held3 (fun w' => w'.cell? ⟨w3.heap.size, 0, none⟩ = some (.slice (some ⟨g1, 0, none⟩) es.length es.length) ∧ w'.cell? ⟨w.heap.size, 0, none⟩ = some (.slice A es.length c) ∧ w'.cell? ⟨w.heap.size + 1, 0, none⟩ = some (.slice B fs.length d) ∧ w'.cell? ⟨w4.heap.size, 0, none⟩ = some (.slice (some ⟨g2, 0, none⟩) fs.length fs.length) ∧ Below w5.heap.size w5 w')
        (first | (refine ⟨?_, ?_, ?_, ?_, ?_⟩ <;> first | go_keep | exact (Below.refl _ _).drew | exact Below.next (And.right (And.right (And.right (And.right (by assumption))))) (by assumption)))
        (first
          | (go_at_call 13; refine (TA5.out _ (And.right (And.right (And.right (And.right (by assumption)))))).mono ?_; rintro e w' ⟨g, es', rfl, o, dd, b⟩; have hk := bkeep b)
          | (go_at_call 15; refine (EQ5.out _ _ _ (And.right (And.right (And.right (And.right (by assumption))))) (by first | exact OwnE.rd (by assumption) | exact (OwnE.rd (by assumption)).below (by assumption)) (by assumption)).mono ?_; rintro e w' ⟨rfl, b⟩; have hk := bkeep b))
      all_goals
        go_wp2_with fail
        go_meet
        case rel => exact ⟨_, rfl, rfl, And.left (And.right (And.right (by assumption))), And.left (And.right (And.right (And.right (by assumption)))), Lib.hid (And.right (And.right (And.right (And.right (by assumption)))))⟩
    case rest =>
      obtain ⟨wy, rfl, rfl, kB6, ky6, hb6⟩ := hcut
      clear TA5 EQ5 kA5 kB5 kx5 ky5
      have B6 := Lib.hid (Below.next B5.out hb6.out)
      have TB6 := Lib.hid (fun W (hb : Below wy.heap.size wy W) => TB.out W (Below.next B6.out hb))
      have EQ6 : Hid (∀ W g' es', Below wy.heap.size wy W → RdE 0 2 W (some ⟨g', 0, none⟩) fs.length es' → dats es' = dats fs →
        Calls Try.prog 15 #[.agg #[.slice (some ⟨g2, 0, none⟩) fs.length fs.length], .agg #[.slice (some ⟨g', 0, none⟩) fs.length fs.length]] W fun e w' => e = .returned (.bool true) ∧ Below W.heap.size W w') :=
        Lib.hid (fun W g' es' hb r d => EQ.out fs W g2 g' es2 es' hm lb.out ((R2.out.below hb6.out).below hb) r D2.out d)
      clear EQ TA TB
      go_upto_region 16 with fail
      go_cut [44] (fun v wx => ∃ wv, wv = wx ∧ v = .bool false ∧ Hid (Below w.heap.size w wv))
      case first =>
        go_region_held3 (fun w' => w'.cell? ⟨w.heap.size + 1, 0, none⟩ = some (.slice B fs.length d) ∧ w'.cell? ⟨w4.heap.size, 0, none⟩ = some (.slice (some ⟨g2, 0, none⟩) fs.length fs.length) ∧ Below wy.heap.size wy w')
          (first | (refine ⟨?_, ?_, ?_⟩ <;> first | go_keep | exact (Below.refl _ _).drew | exact Below.next (And.right (And.right (by assumption))) (by assumption)))
          (first
            | (go_at_call 13; refine (TB6.out _ (And.right (And.right (by assumption)))).mono ?_; rintro e w' ⟨g, es', rfl, o, dd, b⟩; have hk := bkeep b)
            | (go_at_call 15; refine (EQ6.out _ _ _ (And.right (And.right (by assumption))) (by first | exact OwnE.rd (by assumption) | exact (OwnE.rd (by assumption)).below (by assumption)) (by assumption)).mono ?_; rintro e w' ⟨rfl, b⟩; have hk := bkeep b))
        all_goals
          go_wp2_with fail
          go_meet
          case rel => exact ⟨_, rfl, rfl, Lib.hid (Below.next B6.out (And.right (And.right (by assumption))))⟩
      case rest =>
        obtain ⟨wv, rfl, rfl, hb7⟩ := hcut
        go_wp2_with fail
        go_ret
        exact ⟨rfl, hb7.out⟩
end Go.Proofs.Ytcogdogiceokdaa
