/- Claims and proofs: sizes, copies, comparisons (printed by gen_claim.py off the texts on nodes and forms). -/
import Derived.Test.YtcogdogiceokdaaDoorFmE
namespace Go.Proofs.YtcogdogiceokdaaDoor
open Go.RowKit

theorem RdE.claim {w : World} {A : Option Addr} {n k : Nat} {es : List El} (h : RdE 2 2 w A n es) (hk : k < n) : ∃ b off i1 i2 A1 c1 xs A2 c2 ys, A = some ⟨b, off, none⟩ ∧ b < w.heap.size ∧ es[k]? = some ⟨[i1, i2], [⟨A1, c1, xs⟩, ⟨A2, c2, ys⟩]⟩ ∧ RdI w A1 xs.length xs ∧ RdI w A2 ys.length ys ∧
    w.cell? ⟨b, off + k * 4, none⟩ = some (.int .i64 i1) ∧ w.cell? ⟨b, off + k * 4 + 1, none⟩ = some (.int .i64 i2) ∧ w.cell? ⟨b, off + k * 4 + 2, none⟩ = some (.slice A1 xs.length c1) ∧ w.cell? ⟨b, off + k * 4 + 3, none⟩ = some (.slice A2 ys.length c2) := by
  obtain ⟨b, off, rfl, hb, ⟨is, rs⟩, he, _, f1, f2, hr, _, hc⟩ := h.at_ hk
  simp only at f1 f2 hr
  match is, f1, rs, f2 with
  | [i1, i2], _, [r, s], _ =>
    obtain ⟨A1, c1, xs⟩ := r
    obtain ⟨A2, c2, ys⟩ := s
    refine ⟨b, off, i1, i2, A1, c1, xs, A2, c2, ys, rfl, hb, he, hr ⟨A1, c1, xs⟩ (by simp), hr ⟨A2, c2, ys⟩ (by simp), ?_, ?_, ?_, ?_⟩
    · have := hc 0 _ rfl
      simpa [Row.val] using this
    · have := hc 1 _ rfl
      rw [← Nat.add_assoc] at this
      simpa [Row.val] using this
    · have := hc 2 _ rfl
      rw [← Nat.add_assoc] at this
      simpa [Row.val] using this
    · have := hc 3 _ rfl
      rw [← Nat.add_assoc] at this
      simpa [Row.val] using this
set_option maxHeartbeats 1600000 in
theorem c_szClaim (i1 i2 : Int) (A B : Option Addr) (n m c d : Nat) (left : Int) (w : World) (h0 : 0 ≤ left) (h1 : left ≤ 1048576) (hn : n ≤ maxLen) (hm : m ≤ maxLen) :
    Calls Tryd.prog 30 #[.agg #[.int .i64 i1, .int .i64 i2, .slice A n c, .slice B m d], .int .i64 left] w (SizeP left (n + m) w) := by
  have H1 := Lib.hid (fun w => c_szIntS A n c left w h0 h1 hn)
  by_cases h : left < (n : Int)
  · rw [if_pos h] at H1
    go_enter Tryd.func30, Tryd.ntmps30
    go_wp2_with (go_at_call 47; refine (H1.out _).mono ?_; rintro e w' ⟨rfl, rfl⟩)
    exact bodyPost_ret (results_tmp rfl _ _ _) rfl ⟨-1, rfl, .inl rfl, by go_grown⟩
  · rw [if_neg h] at H1
    have H2 := Lib.hid (fun w => c_szIntS B m d (left - n) w (by omega) (by omega) hm)
    have h3 : ¬ left - (n : Int) < 0 := by omega
    by_cases h' : left - (n : Int) < (m : Int)
    · rw [if_pos h'] at H2
      go_enter Tryd.func30, Tryd.ntmps30
      go_wp2_with fail
      refine (H1.out _).mono ?_
      rintro e w' ⟨rfl, rfl⟩
      go_wp2_with fail
      refine (H2.out _).mono ?_
      rintro e w' ⟨rfl, rfl⟩
      go_wp2_with fail
      exact bodyPost_ret (results_tmp rfl _ _ _) rfl ⟨-1, rfl, .inl rfl, by go_grown⟩
    · rw [if_neg h'] at H2
      have h4 : ¬ left - (n : Int) - (m : Int) < 0 := by omega
      go_enter Tryd.func30, Tryd.ntmps30
      go_wp2_with fail
      refine (H1.out _).mono ?_
      rintro e w' ⟨rfl, rfl⟩
      go_wp2_with fail
      refine (H2.out _).mono ?_
      rintro e w' ⟨rfl, rfl⟩
      go_wp2_with fail
      exact bodyPost_ret (results_tmp rfl _ _ _) rfl ⟨left - n - m, rfl, .inr ⟨by omega, by omega⟩, by go_grown⟩
set_option maxHeartbeats 1600000 in
theorem c_szClaimS (A : Option Addr) (n c : Nat) (es : List El) (left : Int) (w : World) (h0 : 0 ≤ left) (h1 : left ≤ 1048576) (rd : RdE 2 2 w A n es) (hn : n ≤ maxLen) (hl : ∀ e ∈ es, ∀ r ∈ e.rs, r.xs.length ≤ maxLen) :
    Calls Tryd.prog 14 #[.slice A n c, .int .i64 left] w (SizeP left (n + tots es) w) := by
  have RD := Lib.hid rd
  have HL := Lib.hid hl
  unfold maxLen at hn
  clear rd hl
  by_cases h : left < (n : Int)
  · have h2 : left - (n : Int) < 0 := by omega
    go_enter Tryd.func14, Tryd.ntmps14
    go_wp2_with fail
    exact bodyPost_ret (results_tmp rfl _ _ _) rfl ⟨-1, rfl, .inl rfl, Below.refl _ _⟩
  · have h2 : ¬ left - (n : Int) < 0 := by omega
    go_enter Tryd.func14, Tryd.ntmps14
    go_wp2_with fail
    go_loopg [1, 5] n (fun mm l i wx => ∃ (k : Nat) (x : Int) (wz : World), wz = wx ∧ k ≤ n ∧ mm = n - k ∧ i = .int .i64 k ∧ l = .int .i64 x ∧ 0 ≤ x ∧ x ≤ 1048576 ∧ Hid (x + (n : Int) + (tots (es.take k) : Int) = left) ∧ Hid (Below w.heap.size w wz))
    case atStart => exact ⟨0, left - n, _, rfl, Nat.zero_le _, rfl, rfl, rfl, by omega, by omega, Lib.hid (by simp [tots]), Lib.hid (Below.refl _ _)⟩
    case round =>
      obtain ⟨k, x, wz, rfl, hk, rfl, rfl, rfl, x0, x1, hx, hb⟩ := hrel
      by_cases hlt : k < n
      · have hltI : (k : Int) < (n : Int) := by omega
        obtain ⟨b, off, i1, i2, A1, c1, xs, A2, c2, ys, rfl, _, he, _, _, hi0, hi1, hc0, hc1⟩ := (RD.out.below hb.out).claim hlt
        have hm := HL.out _ (List.mem_of_getElem? he)
        have HN := Lib.hid (c_szClaim i1 i2 A1 A2 xs.length ys.length c1 c2 x wz x0 x1 (hm ⟨A1, c1, xs⟩ (by simp)) (hm ⟨A2, c2, ys⟩ (by simp)))
        have ht : Hid (tots (es.take (k + 1)) = tots (es.take k) + (xs.length + ys.length)) := Lib.hid (by rw [tots_succ he]; simp [El.tot])
        clear he hm
        go_wp2_with fail
        refine HN.out.mono ?_
        rintro e w1 ⟨y, rfl, hy, b1⟩
        have B1 := Lib.hid (Below.next hb.out b1)
        clear b1 HN
        rcases hy with rfl | ⟨y0, hy⟩
        · go_wp2_with fail
          exact bodyPost_ret (results_tmp rfl _ _ _) rfl ⟨-1, rfl, .inl rfl, B1.out⟩
        · have hx2 : Hid (y + (n : Int) + (tots (es.take (k + 1)) : Int) = left) := Lib.hid (by have := hx.out; rw [ht.out]; push_cast at hy ⊢; omega)
          have y1 : y ≤ 1048576 := by push_cast at hy; omega
          have hy3 : ¬ y < 0 := by omega
          clear hx ht hy
          go_wp2_with fail
          go_roundg (n - (k + 1))
          case measure => omega
          case rel => exact ⟨k + 1, y, _, rfl, by omega, rfl, by go_num, rfl, y0, y1, hx2, B1⟩
      · obtain rfl : k = n := by omega
        have hf : Hid (x + ((k + tots es : Nat) : Int) = left) := Lib.hid (by
          have := hx.out
          rw [List.take_of_length_le (by rw [RD.out.len]; exact Nat.le_refl _)] at this
          push_cast; omega)
        go_wp2_with fail
        exact bodyPost_ret (results_tmp rfl _ _ _) rfl ⟨x, rfl, .inr ⟨x0, hf.out⟩, hb.out⟩
set_option maxHeartbeats 800000 in
theorem c_szProof (A : Option Addr) (n c : Nat) (es : List El) (left : Int) (w : World) (h0 : 0 ≤ left) (h1 : left ≤ 1048576) (rd : RdE 2 2 w A n es) (hn : n ≤ maxLen) (hl : ∀ e ∈ es, ∀ r ∈ e.rs, r.xs.length ≤ maxLen) :
    Calls Tryd.prog 5 #[.agg #[.slice A n c], .int .i64 left] w (SizeP left (n + tots es) w) := by
  have HN := Lib.hid (fun W (hb : Below w.heap.size w W) => c_szClaimS A n c es left W h0 h1 (rd.below hb) hn hl)
  clear rd hl
  go_enter Tryd.func5, Tryd.ntmps5
  go_wp2_with fail
  refine (HN.out _ (by go_grown)).mono ?_
  rintro e w1 ⟨y, rfl, hy, b1⟩
  have B1 : Hid (Below w.heap.size w w1) := Lib.hid (Below.next (by go_grown) b1)
  clear b1 HN
  rcases hy with rfl | ⟨y0, hy⟩
  · go_wp2_with fail
    exact bodyPost_ret (results_tmp rfl _ _ _) rfl ⟨-1, rfl, .inl rfl, B1.out⟩
  · have hy3 : ¬ y < 0 := by omega
    have HY := Lib.hid hy
    clear hy
    go_wp2_with fail
    exact bodyPost_ret (results_tmp rfl _ _ _) rfl ⟨y, rfl, .inr ⟨y0, HY.out⟩, B1.out⟩
theorem four_set {w1 : World} {b : Nat} {u0 u1 u2 u3 x y z v : Value} (h0 : w1.cell? ⟨b, 0, none⟩ = some u0) (h1 : w1.cell? ⟨b, 1, none⟩ = some u1) (h2 : w1.cell? ⟨b, 2, none⟩ = some u2) (h3 : w1.cell? ⟨b, 3, none⟩ = some u3) :
    let w' := (((w1.setCell ⟨b, 0, none⟩ x).setCell ⟨b, 1, none⟩ y).setCell ⟨b, 2, none⟩ z).setCell ⟨b, 3, none⟩ v
    w'.cell? ⟨b, 0, none⟩ = some x ∧ w'.cell? ⟨b, 1, none⟩ = some y ∧ w'.cell? ⟨b, 2, none⟩ = some z ∧ w'.cell? ⟨b, 3, none⟩ = some v := by
  refine ⟨?_, ?_, ?_, ?_⟩
  · rw [World.cell?_setCell_other _ _ _ _ (by simp), World.cell?_setCell_other _ _ _ _ (by simp), World.cell?_setCell_other _ _ _ _ (by simp)]
    exact World.cell?_setCell_same _ _ _ h0
  · rw [World.cell?_setCell_other _ _ _ _ (by simp), World.cell?_setCell_other _ _ _ _ (by simp)]
    exact World.cell?_setCell_same (u := u1) _ _ _ (by rw [World.cell?_setCell_other _ _ _ _ (by simp)]; exact h1)
  · rw [World.cell?_setCell_other _ _ _ _ (by simp)]
    exact World.cell?_setCell_same (u := u2) _ _ _ (by rw [World.cell?_setCell_other _ _ _ _ (by simp), World.cell?_setCell_other _ _ _ _ (by simp)]; exact h2)
  · exact World.cell?_setCell_same (u := u3) _ _ _ (by rw [World.cell?_setCell_other _ _ _ _ (by simp), World.cell?_setCell_other _ _ _ _ (by simp), World.cell?_setCell_other _ _ _ _ (by simp)]; exact h3)
/-- A copy of a claim. -/
def ClaimP (i1 i2 : Int) (xs ys : List Int) (w : World) (e : Ending) (w' : World) : Prop :=
  ∃ g1 g2, e = .returned (.agg #[.int .i64 i1, .int .i64 i2, .slice (some ⟨g1, 0, none⟩) xs.length xs.length, .slice (some ⟨g2, 0, none⟩) ys.length ys.length]) ∧ g1 ≠ g2 ∧
    OwnI w' w.heap.size (some ⟨g1, 0, none⟩) xs.length xs ∧ OwnI w' w.heap.size (some ⟨g2, 0, none⟩) ys.length ys ∧ Below w.heap.size w w'
theorem res_claim {fn : Func} {s : Nat} (tmps : Array Value) (w : World) {b : Nat} {i1 i2 : Int} {A1 A2 : Option Addr} {n1 c1 n2 c2 : Nat} (h : fn.results = #[.cell s 47])
    (hp : tmps.getD s undef = .pointer (some ⟨b, 0, none⟩)) (hc : w.cell? ⟨b, 0, none⟩ = some (.int .i64 i1) ∧ w.cell? ⟨b, 1, none⟩ = some (.int .i64 i2) ∧ w.cell? ⟨b, 2, none⟩ = some (.slice A1 n1 c1) ∧ w.cell? ⟨b, 3, none⟩ = some (.slice A2 n2 c2)) :
    (results fn tmps).run Tryd.prog w = .ok (.agg #[.int .i64 i1, .int .i64 i2, .slice A1 n1 c1, .slice A2 n2 c2]) w := by
  obtain ⟨h0, h1, h2, h3⟩ := hc
  simp only [Array.getD_eq_getD_getElem?] at hp
  simp only [results, h]
  simp [hp, go_sem, h0, h1, h2, h3]
set_option maxHeartbeats 1600000 in
theorem c_toClaim (i1 i2 : Int) (A B : Option Addr) (c d : Nat) (xs ys : List Int) (w : World) (ra : RdI w A xs.length xs) (rb : RdI w B ys.length ys) (hn : xs.length ≤ 1048576) (hm : ys.length ≤ 1048576) :
    Calls Tryd.prog 35 #[.agg #[.int .i64 i1, .int .i64 i2, .slice A xs.length c, .slice B ys.length d]] w (ClaimP i1 i2 xs ys w) := by
  have RA := Lib.hid ra
  have RB := Lib.hid rb
  clear ra rb
  go_enter Tryd.func35, Tryd.ntmps35
  go_wp2_with fail
  refine (c_toIntS_own A xs.length c xs _ (RA.out.below (by go_grown)) hn).mono ?_
  rintro e w1 ⟨g1, rfl, o1, b1⟩
  have O1 := Lib.hid o1
  have k1 : w1.cell? ⟨w.heap.size, 3, none⟩ = some (.slice B ys.length d) := bkeep b1 _ _ (by simp [go_sem])
  have m0 : w1.cell? ⟨w.heap.size + 1, 0, none⟩ = some (.int .i64 0) := bkeep b1 _ _ (by simp [go_sem])
  have m1 : w1.cell? ⟨w.heap.size + 1, 1, none⟩ = some (.int .i64 0) := bkeep b1 _ _ (by simp [go_sem])
  have m2 : w1.cell? ⟨w.heap.size + 1, 2, none⟩ = some (.slice none 0 0) := bkeep b1 _ _ (by simp [go_sem])
  have m3 : w1.cell? ⟨w.heap.size + 1, 3, none⟩ = some (.slice none 0 0) := bkeep b1 _ _ (by simp [go_sem])
  have l0 : w1.cell? ⟨w.heap.size + 1 + 1, 0, none⟩ = some (.int .i64 i1) := bkeep b1 _ _ (by simp [go_sem])
  have l1 : w1.cell? ⟨w.heap.size + 1 + 1, 1, none⟩ = some (.int .i64 i2) := bkeep b1 _ _ (by simp [go_sem])
  have l2 : w1.cell? ⟨w.heap.size + 1 + 1, 2, none⟩ = some (.slice none 0 0) := bkeep b1 _ _ (by simp [go_sem])
  have l3 : w1.cell? ⟨w.heap.size + 1 + 1, 3, none⟩ = some (.slice none 0 0) := bkeep b1 _ _ (by simp [go_sem])
  have f0 : ∀ o, w1.frozen? ⟨w.heap.size + 1, o, none⟩ = false := fun o => ((bcell b1).2 _ _ (by simp [go_sem])).trans (by simp [go_sem])
  have f1 : ∀ o, w1.frozen? ⟨w.heap.size + 1 + 1, o, none⟩ = false := fun o => ((bcell b1).2 _ _ (by simp [go_sem])).trans (by simp [go_sem])
  have B1 : Hid (Below w.heap.size w w1) := Lib.hid (Below.next (by go_grown) b1)
  have G1 := Lib.hid (o1.lt g1 rfl)
  have s1 := b1.size
  simp at s1
  clear o1 b1
  go_wp2_with fail
  refine (c_toIntS_own B ys.length d ys _ (RB.out.below (B1.out.setCell (show w.heap.size ≤ w.heap.size + 1 + 1 by omega) _)) hm).mono ?_
  rintro e w2 ⟨g2, rfl, o2, b2⟩
  have O2 := Lib.hid o2
  have l0' : w2.cell? ⟨w.heap.size + 1 + 1, 0, none⟩ = some (.int .i64 i1) := bkeep b2 _ _ (by rw [World.cell?_setCell_other _ _ _ _ (by simp)]; exact l0)
  have l1' : w2.cell? ⟨w.heap.size + 1 + 1, 1, none⟩ = some (.int .i64 i2) := bkeep b2 _ _ (by rw [World.cell?_setCell_other _ _ _ _ (by simp)]; exact l1)
  have l2' : w2.cell? ⟨w.heap.size + 1 + 1, 2, none⟩ = some (.slice (some ⟨g1, 0, none⟩) xs.length xs.length) := bkeep b2 _ _ (World.cell?_setCell_same _ _ _ l2)
  have l3' : w2.cell? ⟨w.heap.size + 1 + 1, 3, none⟩ = some (.slice none 0 0) := bkeep b2 _ _ (by rw [World.cell?_setCell_other _ _ _ _ (by simp)]; exact l3)
  have m0' : w2.cell? ⟨w.heap.size + 1, 0, none⟩ = some (.int .i64 0) := bkeep b2 _ _ (by rw [World.cell?_setCell_other _ _ _ _ (by simp)]; exact m0)
  have m1' : w2.cell? ⟨w.heap.size + 1, 1, none⟩ = some (.int .i64 0) := bkeep b2 _ _ (by rw [World.cell?_setCell_other _ _ _ _ (by simp)]; exact m1)
  have m2' : w2.cell? ⟨w.heap.size + 1, 2, none⟩ = some (.slice none 0 0) := bkeep b2 _ _ (by rw [World.cell?_setCell_other _ _ _ _ (by simp)]; exact m2)
  have m3' : w2.cell? ⟨w.heap.size + 1, 3, none⟩ = some (.slice none 0 0) := bkeep b2 _ _ (by rw [World.cell?_setCell_other _ _ _ _ (by simp)]; exact m3)
  have f0' : ∀ o, w2.frozen? ⟨w.heap.size + 1, o, none⟩ = false := fun o => ((bcell b2).2 _ _ (by simpa using cell_lt m0)).trans (by rw [World.frozen?_setCell]; exact f0 o)
  have f1' : ∀ o, w2.frozen? ⟨w.heap.size + 1 + 1, o, none⟩ = false := fun o => ((bcell b2).2 _ _ (by simpa using cell_lt l0)).trans (by rw [World.frozen?_setCell]; exact f1 o)
  have B2 : Hid (Below w.heap.size w w2) := Lib.hid (Below.next (B1.out.setCell (show w.heap.size ≤ w.heap.size + 1 + 1 by omega) _) b2)
  have O1' : Hid (OwnI w2 (w.heap.size + 3) (some ⟨g1, 0, none⟩) xs.length xs) := Lib.hid (own_below (own_set (own_low O1.out (by simp)) (show w.heap.size + 1 + 1 < w.heap.size + 3 by omega) _) b2)
  have O2' : Hid (OwnI w2 (w.heap.size + 3) (some ⟨g2, 0, none⟩) ys.length ys) := Lib.hid (own_low O2.out (by simp; omega))
  have G2 : Hid (g1 ≠ g2) := Lib.hid (by
    have h1 := (o2.lt g2 rfl).1
    have h2 := G1.out.2
    simp at h1
    omega)
  have ms : ∀ (u : Value) o, (w2.setCell ⟨w.heap.size + 1 + 1, 3, none⟩ u).cell? ⟨w.heap.size + 1, o, none⟩ = w2.cell? ⟨w.heap.size + 1, o, none⟩ := fun u o => World.cell?_setCell_other _ _ _ _ (by simp)
  have MS := Lib.hid ms
  have M0 := Lib.hid m0'
  have M1 := Lib.hid m1'
  have M2 := Lib.hid m2'
  have M3 := Lib.hid m3'
  clear k1 l0 l1 l2 l3 m0 m1 m2 m3 f0 f1 o2 b2 O1 O2 B1 G1 s1 ms
  go_wp2_with fail
  refine bodyPost_ret (res_claim _ _ rfl rfl (four_set ((MS.out _ _).trans M0.out) ((MS.out _ _).trans M1.out) ((MS.out _ _).trans M2.out) ((MS.out _ _).trans M3.out))) rfl ⟨g1, g2, rfl, G2.out, ?_, ?_, ?_⟩
  · exact own_low (own_set (own_set (own_set (own_set (own_set O1'.out (show w.heap.size + 1 + 1 < w.heap.size + 3 by omega) _) (show w.heap.size + 1 < w.heap.size + 3 by omega) _) (show w.heap.size + 1 < w.heap.size + 3 by omega) _) (show w.heap.size + 1 < w.heap.size + 3 by omega) _) (show w.heap.size + 1 < w.heap.size + 3 by omega) _) (by omega)
  · exact own_low (own_set (own_set (own_set (own_set (own_set O2'.out (show w.heap.size + 1 + 1 < w.heap.size + 3 by omega) _) (show w.heap.size + 1 < w.heap.size + 3 by omega) _) (show w.heap.size + 1 < w.heap.size + 3 by omega) _) (show w.heap.size + 1 < w.heap.size + 3 by omega) _) (show w.heap.size + 1 < w.heap.size + 3 by omega) _) (by omega)
  · exact ((((B2.out.setCell (show w.heap.size ≤ w.heap.size + 1 + 1 by omega) _).setCell (show w.heap.size ≤ w.heap.size + 1 by omega) _).setCell (show w.heap.size ≤ w.heap.size + 1 by omega) _).setCell (show w.heap.size ≤ w.heap.size + 1 by omega) _).setCell (show w.heap.size ≤ w.heap.size + 1 by omega) _
theorem hI_claim : (Tryd.prog.info? 47).map (fun i => (i.zero, i.size, i.bytes)) = some (some (.agg #[.int .i64 0, .int .i64 0, .slice none 0 0, .slice none 0 0]), 4, 64) := by kernel_rfl
theorem getD_four {l : List Value} {m : Nat} (hl : l.length = m) (a b c d z : Value) (j : Nat) : (l ++ [a, b, c, d]).getD j z = if j = m + 3 then d else if j = m + 2 then c else if j = m + 1 then b else if j = m then a else l.getD j z := by
  have h1 := getD_two (l := l ++ [a, b]) (m := m + 2) (by simp [hl]) c d z j
  have h2 := getD_two hl a b z j
  rw [List.append_assoc] at h1
  rw [show [a, b] ++ [c, d] = [a, b, c, d] from rfl] at h1
  rw [h1, h2]
set_option maxRecDepth 100000 in
set_option maxHeartbeats 3200000 in
theorem c_toClaimS (A : Option Addr) (c : Nat) (es : List El) (w : World) (rd : RdE 2 2 w A es.length es) (hn : es.length ≤ 1048576) (hl : ∀ e ∈ es, ∀ r ∈ e.rs, r.xs.length ≤ 1048576) :
    Calls Tryd.prog 17 #[.slice A es.length c] w (CopyP 2 2 47 es w) := by
  have RD := Lib.hid rd
  have HL := Lib.hid hl
  clear rd hl
  obtain ⟨n, hnn⟩ : ∃ n, es.length = n := ⟨_, rfl⟩
  have HN := Lib.hid hnn
  unfold CopyP
  rw [hnn] at RD hn ⊢
  clear hnn
  have hmk := run_make_rows (P := Tryd.prog) 28 47 (.agg #[.int .i64 0, .int .i64 0, .slice none 0 0, .slice none 0 0]) 4 64 Tryd.underlying28 hI_claim n (by omega) (by omega)
  go_enter Tryd.func17, Tryd.ntmps17
  go_wp2_with fail
  clear hmk
  have hrow0 := rowIs_new w (madeCells (Value.agg #[.int .i64 0, .int .i64 0, .slice none 0 0, .slice none 0 0]).cells (n * 4)) 47 (size_madeCells _ _)
  have M0 := Lib.hid (Mid.start (p := 2) (q := 2) hrow0)
  have B0 : Hid (Below w.heap.size w (w.alloc (.cells (madeCells (Value.agg #[.int .i64 0, .int .i64 0, .slice none 0 0, .slice none 0 0]).cells (n * 4)) 47))) := Lib.hid ((Below.refl _ _).alloc (Nat.le_refl _) _)
  clear hrow0
  go_loopg [4] n (fun mm i wx => ∃ (k : Nat) (es' : List El) (f : Nat → Value) (wz : World), wz = wx ∧ k ≤ n ∧ mm = n - k ∧ i = .int .i64 k ∧ Hid (Mid 2 2 47 wz w.heap.size n k es' f) ∧ Hid (dats es' = (dats es).take k) ∧ Hid (Below w.heap.size w wz))
  case atStart => exact ⟨0, [], _, _, rfl, Nat.zero_le _, rfl, rfl, M0, Lib.hid rfl, B0⟩
  case round =>
    obtain ⟨k, es', f, wz, rfl, hk, rfl, rfl, hM, hd, hb⟩ := hrel
    clear M0 B0
    by_cases hlt : k < n
    · have hltI : (k : Int) < (n : Int) := by omega
      obtain ⟨b, off, i1, i2, A1, d1, xs, A2, d2, ys, rfl, _, he, r1, r2, hi0, hi1, hc0, hc1⟩ := (RD.out.below hb.out).claim hlt
      have hm := HL.out _ (List.mem_of_getElem? he)
      have HT := Lib.hid (c_toClaim i1 i2 A1 A2 d1 d2 xs ys wz r1 r2 (hm ⟨A1, d1, xs⟩ (by simp)) (hm ⟨A2, d2, ys⟩ (by simp)))
      have HE := Lib.hid he
      clear he hm r1 r2
      go_wp2_with fail
      refine HT.out.mono ?_
      rintro e w1 ⟨g1, g2, rfl, gne, o1, o2, b1⟩
      have O1 := Lib.hid o1
      have O2 := Lib.hid o2
      have B1 := Lib.hid b1
      have GN := Lib.hid gne
      have hrow1 := (hM.out.below b1).row
      have hs0 := hrow1.cell (i := k * 4) (by omega)
      have hs1 := hrow1.cell (i := k * 4 + 1) (by omega)
      have hs2 := hrow1.cell (i := k * 4 + 2) (by omega)
      have hs3 := hrow1.cell (i := k * 4 + 3) (by omega)
      have hf0 := hrow1.frozen (k * 4)
      have hf1 := hrow1.frozen (k * 4 + 1)
      have hf2 := hrow1.frozen (k * 4 + 2)
      have hf3 := hrow1.frozen (k * 4 + 3)
      have HR := Lib.hid hrow1
      clear HT o1 o2 b1 gne hrow1
      go_wp2_with fail
      go_roundg (n - (k + 1))
      case measure => omega
      case rel =>
        have hlen : (es'.flatMap El.cells).length = k * 4 := by
          rw [flat_len (m := 4) (fun e he => El.cells_len (hM.out.fit e he).1 (hM.out.fit e he).2), hM.out.len]
        refine ⟨k + 1, es' ++ [⟨[i1, i2], [⟨some ⟨g1, 0, none⟩, xs.length, xs⟩, ⟨some ⟨g2, 0, none⟩, ys.length, ys⟩]⟩], _, _, rfl, by omega, rfl, by go_num, Lib.hid (hM.out.step B1.out (fun base E v m us hg ho => own_set (own_set (own_set (own_set ho hg _) hg _) hg _) hg _) ((((HR.out.set (k * 4) _).set (k * 4 + 1) _).set (k * 4 + 2) _).set (k * 4 + 3) _) ?_ ⟨rfl, rfl⟩ ?_ ?_), Lib.hid ?_, Lib.hid ?_⟩
        · intro j hj
          rw [List.flatMap_append, List.flatMap_singleton]
          show _ = (es'.flatMap El.cells ++ [Value.int .i64 i1, Value.int .i64 i2, Value.slice (some ⟨g1, 0, none⟩) xs.length xs.length, Value.slice (some ⟨g2, 0, none⟩) ys.length ys.length]).getD j undef
          rw [getD_four hlen]
          by_cases e3 : j = k * 4 + 3
          · simp [e3]
          · by_cases e2 : j = k * 4 + 2
            · simp [e2]
            · by_cases e1 : j = k * 4 + 1
              · simp [e1]
              · by_cases e0 : j = k * 4
                · simp [e0]
                · simp only [e0, e1, e2, e3, if_false]
                  exact hM.out.said j (by omega)
        · intro r hr
          simp only [List.mem_cons, List.not_mem_nil, or_false] at hr
          rcases hr with rfl | rfl
          · exact O1.out
          · exact O2.out
        · simp only [List.pairwise_cons, List.mem_cons, List.not_mem_nil, or_false, forall_eq, List.Pairwise.nil, and_true]
          refine ⟨.inr fun e2 => GN.out ?_, fun _ h => by cases h⟩
          have : some g1 = some g2 := e2
          injection this
        · exact dats_step hd.out HE.out rfl
        · exact ((((Below.next hb.out B1.out).setCell (Nat.le_refl _) _).setCell (Nat.le_refl _) _).setCell (Nat.le_refl _) _).setCell (Nat.le_refl _) _
    · obtain rfl : k = n := by omega
      have hdd : Hid (dats es' = dats es) := Lib.hid (by rw [hd.out, List.take_of_length_le (by simp [HN.out])])
      go_wp2_with fail
      exact bodyPost_ret (results_tmp rfl _ _ _) rfl ⟨w.heap.size, es', rfl, hM.out.own (Nat.le_refl _), hdd.out, hb.out⟩
theorem res_proof {fn : Func} {s : Nat} (tmps : Array Value) (w : World) {b : Nat} {A1 : Option Addr} {n1 c1 : Nat} (h : fn.results = #[.cell s 30])
    (hp : tmps.getD s undef = .pointer (some ⟨b, 0, none⟩)) (hx : w.cell? ⟨b, 0, none⟩ = some (.slice A1 n1 c1)) :
    (results fn tmps).run Tryd.prog w = .ok (.agg #[.slice A1 n1 c1]) w := by
  simp only [Array.getD_eq_getD_getElem?] at hp
  simp only [results, h]
  simp [hp, go_sem, hx]
set_option maxHeartbeats 800000 in
theorem c_toProof (A : Option Addr) (c : Nat) (es : List El) (w : World) (rd : RdE 2 2 w A es.length es) (hn : es.length ≤ 1048576) (hl : ∀ e ∈ es, ∀ r ∈ e.rs, r.xs.length ≤ 1048576) :
    Calls Tryd.prog 7 #[.agg #[.slice A es.length c]] w (CopyS 2 2 47 es w) := by
  have HN := Lib.hid (fun W (hb : Below w.heap.size w W) => c_toClaimS A c es W (rd.below hb) hn hl)
  clear rd hl
  go_enter Tryd.func7, Tryd.ntmps7
  go_wp2_with fail
  refine (HN.out _ (by go_grown)).mono ?_
  rintro e w1 ⟨g, es', rfl, o1, d1, b1⟩
  have O1 := Lib.hid o1
  have D1 := Lib.hid d1
  have m0 : w1.cell? ⟨w.heap.size + 1, 0, none⟩ = some (.slice none 0 0) := bkeep b1 _ _ (by simp [go_sem])
  have l0 : w1.cell? ⟨w.heap.size + 1 + 1, 0, none⟩ = some (.slice none 0 0) := bkeep b1 _ _ (by simp [go_sem])
  have f0 : ∀ o, w1.frozen? ⟨w.heap.size + 1, o, none⟩ = false := fun o => ((bcell b1).2 _ _ (by simp [go_sem])).trans (by simp [go_sem])
  have f1 : ∀ o, w1.frozen? ⟨w.heap.size + 1 + 1, o, none⟩ = false := fun o => ((bcell b1).2 _ _ (by simp [go_sem])).trans (by simp [go_sem])
  have B1 : Hid (Below w.heap.size w w1) := Lib.hid (Below.next (by go_grown) b1)
  have m0s : (w1.setCell ⟨w.heap.size + 1 + 1, 0, none⟩ (.slice (some ⟨g, 0, none⟩) es.length es.length)).cell? ⟨w.heap.size + 1, 0, none⟩ = some (.slice none 0 0) := by rw [World.cell?_setCell_other _ _ _ _ (by simp)]; exact m0
  have r0 : ((w1.setCell ⟨w.heap.size + 1 + 1, 0, none⟩ (.slice (some ⟨g, 0, none⟩) es.length es.length)).setCell ⟨w.heap.size + 1, 0, none⟩ (.slice (some ⟨g, 0, none⟩) es.length es.length)).cell? ⟨w.heap.size + 1, 0, none⟩ = some (.slice (some ⟨g, 0, none⟩) es.length es.length) := World.cell?_setCell_same _ _ _ m0s
  have O2 : Hid (OwnE 2 2 47 w1 (w.heap.size + 3) g es.length es') := Lib.hid (by
    have := O1.out.low
    simp at this
    exact ⟨by omega, O1.out.row, O1.out.len, O1.out.fit, O1.out.rows, O1.out.apart⟩)
  clear O1 o1 d1 b1 HN
  go_wp2_with fail
  refine bodyPost_ret (res_proof _ _ rfl rfl r0) rfl ⟨g, es', rfl, ?_, D1.out, ?_⟩
  · exact (own_setE (own_setE O2.out (show w.heap.size + 1 + 1 < w.heap.size + 3 by omega) _) (show w.heap.size + 1 < w.heap.size + 3 by omega) _).lower (by omega)
  · exact (B1.out.setCell (show w.heap.size ≤ w.heap.size + 1 + 1 by omega) _).setCell (show w.heap.size ≤ w.heap.size + 1 by omega) _
end Go.Proofs.YtcogdogiceokdaaDoor
