/- Points: copies, comparisons (printed by gen_point.py). -/
import Derived.Test.YtcogdogiceokdaaFmI
import Derived.Test.YtcogdogiceokdaaDyA
namespace Go.Proofs.Ytcogdogiceokdaa
open Go.RowKit

theorem RdE.point {w : World} {A : Option Addr} {n k : Nat} {es : List El} (h : RdE 4 0 w A n es) (hk : k < n) : ∃ b off x1 x2 x3 x4, A = some ⟨b, off, none⟩ ∧ b < w.heap.size ∧ es[k]? = some ⟨[x1, x2, x3, x4], []⟩ ∧
    w.cell? ⟨b, off + k * 4, none⟩ = some (.int .i64 x1) ∧ w.cell? ⟨b, off + k * 4 + 1, none⟩ = some (.int .i64 x2) ∧ w.cell? ⟨b, off + k * 4 + 2, none⟩ = some (.int .i64 x3) ∧ w.cell? ⟨b, off + k * 4 + 3, none⟩ = some (.int .i64 x4) := by
  obtain ⟨b, off, rfl, hb, ⟨is, rs⟩, he, _, f1, f2, hr, _, hc⟩ := h.at_ hk
  simp only at f1 f2 hr
  match is, f1, rs, f2 with
  | [x1, x2, x3, x4], _, [], _ =>
    refine ⟨b, off, x1, x2, x3, x4, rfl, hb, he, ?_, ?_, ?_, ?_⟩
    · have := hc 0 _ rfl
      simpa using this
    · have := hc 1 _ rfl
      rw [← Nat.add_assoc] at this
      simpa using this
    · have := hc 2 _ rfl
      rw [← Nat.add_assoc] at this
      simpa using this
    · have := hc 3 _ rfl
      rw [← Nat.add_assoc] at this
      simpa using this
set_option maxHeartbeats 800000 in
theorem c_szPointS (A : Option Addr) (n c : Nat) (left : Int) (w : World) (h0 : 0 ≤ left) (h1 : left ≤ 1048576) (hn : n ≤ maxLen) :
    Calls Try.prog 6 #[.slice A n c, .int .i64 left] w fun e w' => e = .returned (.int .i64 (if left < (n : Int) then -1 else left - (n : Int))) ∧ w = w' := by
  unfold maxLen at hn
  by_cases h : left < (n : Int)
  · rw [if_pos h]
    go_enter Try.func6, Try.ntmps6
    have h2 : left - (n : Int) < 0 := by omega
    go_wp2_with fail
    go_ret
    exact ⟨rfl, rfl⟩
  · rw [if_neg h]
    go_enter Try.func6, Try.ntmps6
    have h2 : ¬ left - (n : Int) < 0 := by omega
    go_wp2_with fail
    go_ret
    exact ⟨rfl, rfl⟩
theorem res_point {fn : Func} {s : Nat} (tmps : Array Value) (w : World) {b : Nat} {x1 x2 x3 x4 : Int} (h : fn.results = #[.cell s 58])
    (hp : tmps.getD s undef = .pointer (some ⟨b, 0, none⟩)) (hc : w.cell? ⟨b, 0, none⟩ = some (.int .i64 x1) ∧ w.cell? ⟨b, 1, none⟩ = some (.int .i64 x2) ∧ w.cell? ⟨b, 2, none⟩ = some (.int .i64 x3) ∧ w.cell? ⟨b, 3, none⟩ = some (.int .i64 x4)) :
    (results fn tmps).run Try.prog w = .ok (.agg #[.int .i64 x1, .int .i64 x2, .int .i64 x3, .int .i64 x4]) w := by
  obtain ⟨h0, h1, h2, h3⟩ := hc
  simp only [Array.getD_eq_getD_getElem?] at hp
  simp only [results, h]
  simp [hp, go_sem, h0, h1, h2, h3]
abbrev pv (x1 x2 x3 x4 : Int) : Value := .agg #[.int .i64 x1, .int .i64 x2, .int .i64 x3, .int .i64 x4]
set_option maxHeartbeats 1600000 in
theorem c_toPoint (x1 x2 x3 x4 : Int) (w : World) :
    Calls Try.prog 26 #[pv x1 x2 x3 x4] w fun e w' => e = .returned (pv x1 x2 x3 x4) ∧ Below w.heap.size w w' := by
  go_enter Try.func26, Try.ntmps26
  go_wp2_with fail
  refine (c_toDyadic _ _ _).mono ?_
  rintro e w1 ⟨rfl, b1⟩
  have k2 : w1.cell? ⟨w.heap.size, 2, none⟩ = some (.int .i64 x3) := bkeep b1 _ _ (by simp [go_sem])
  have k3 : w1.cell? ⟨w.heap.size, 3, none⟩ = some (.int .i64 x4) := bkeep b1 _ _ (by simp [go_sem])
  have m : ∀ o, o < 4 → w1.cell? ⟨w.heap.size + 1, o, none⟩ = some (.int .i64 0) := fun o ho => by
    rcases (show o = 0 ∨ o = 1 ∨ o = 2 ∨ o = 3 by omega) with rfl | rfl | rfl | rfl <;> exact bkeep b1 _ _ (by simp [go_sem])
  have l0 : w1.cell? ⟨w.heap.size + 1 + 1, 0, none⟩ = some (.int .i64 0) := bkeep b1 _ _ (by simp [go_sem])
  have l1 : w1.cell? ⟨w.heap.size + 1 + 1, 1, none⟩ = some (.int .i64 0) := bkeep b1 _ _ (by simp [go_sem])
  have l2 : w1.cell? ⟨w.heap.size + 1 + 1, 2, none⟩ = some (.int .i64 0) := bkeep b1 _ _ (by simp [go_sem])
  have l3 : w1.cell? ⟨w.heap.size + 1 + 1, 3, none⟩ = some (.int .i64 0) := bkeep b1 _ _ (by simp [go_sem])
  have f0 : ∀ o, w1.frozen? ⟨w.heap.size + 1, o, none⟩ = false := fun o => ((bcell b1).2 _ _ (by simp [go_sem])).trans (by simp [go_sem])
  have f1 : ∀ o, w1.frozen? ⟨w.heap.size + 1 + 1, o, none⟩ = false := fun o => ((bcell b1).2 _ _ (by simp [go_sem])).trans (by simp [go_sem])
  have B1 : Hid (Below w.heap.size w w1) := Lib.hid (Below.next (by go_grown) b1)
  have M1 := Lib.hid m
  clear b1 m
  go_wp2_with fail
  refine (c_toDyadic _ _ _).mono ?_
  rintro e w2 ⟨rfl, b2⟩
  have l0' : w2.cell? ⟨w.heap.size + 1 + 1, 0, none⟩ = some (.int .i64 x1) := bkeep b2 _ _ (by rw [World.cell?_setCell_other _ _ _ _ (by simp)]; exact World.cell?_setCell_same _ _ _ l0)
  have l1' : w2.cell? ⟨w.heap.size + 1 + 1, 1, none⟩ = some (.int .i64 x2) := bkeep b2 _ _ (World.cell?_setCell_same (u := .int .i64 0) _ _ _ (by rw [World.cell?_setCell_other _ _ _ _ (by simp)]; exact l1))
  have l2' : w2.cell? ⟨w.heap.size + 1 + 1, 2, none⟩ = some (.int .i64 0) := bkeep b2 _ _ (by rw [World.cell?_setCell_other _ _ _ _ (by simp), World.cell?_setCell_other _ _ _ _ (by simp)]; exact l2)
  have l3' : w2.cell? ⟨w.heap.size + 1 + 1, 3, none⟩ = some (.int .i64 0) := bkeep b2 _ _ (by rw [World.cell?_setCell_other _ _ _ _ (by simp), World.cell?_setCell_other _ _ _ _ (by simp)]; exact l3)
  have m' : ∀ o, o < 4 → w2.cell? ⟨w.heap.size + 1, o, none⟩ = some (.int .i64 0) := fun o ho => bkeep b2 _ _ (by rw [World.cell?_setCell_other _ _ _ _ (by simp), World.cell?_setCell_other _ _ _ _ (by simp)]; exact M1.out o ho)
  have m0' := m' 0 (by decide)
  have m1' := m' 1 (by decide)
  have m2' := m' 2 (by decide)
  have m3' := m' 3 (by decide)
  have f0' : ∀ o, w2.frozen? ⟨w.heap.size + 1, o, none⟩ = false := fun o => ((bcell b2).2 _ _ (by simpa using cell_lt (M1.out 0 (by decide)))).trans (by rw [World.frozen?_setCell, World.frozen?_setCell]; exact f0 o)
  have f1' : ∀ o, w2.frozen? ⟨w.heap.size + 1 + 1, o, none⟩ = false := fun o => ((bcell b2).2 _ _ (by simpa using cell_lt l0)).trans (by rw [World.frozen?_setCell, World.frozen?_setCell]; exact f1 o)
  have B2 : Hid (Below w.heap.size w w2) := Lib.hid (Below.next ((B1.out.setCell (show w.heap.size ≤ w.heap.size + 1 + 1 by omega) _).setCell (show w.heap.size ≤ w.heap.size + 1 + 1 by omega) _) b2)
  have MS : Hid (∀ (u v : Value) o, ((w2.setCell ⟨w.heap.size + 1 + 1, 2, none⟩ u).setCell ⟨w.heap.size + 1 + 1, 3, none⟩ v).cell? ⟨w.heap.size + 1, o, none⟩ = w2.cell? ⟨w.heap.size + 1, o, none⟩) := Lib.hid (fun u v o => by rw [World.cell?_setCell_other _ _ _ _ (by simp), World.cell?_setCell_other _ _ _ _ (by simp)])
  have M2 := Lib.hid m'
  clear k2 k3 l0 l1 l2 l3 f0 f1 b2 m' M1 B1
  go_wp2_with fail
  refine bodyPost_ret (res_point _ _ rfl rfl (four_set ((MS.out _ _ _).trans (M2.out 0 (by decide))) ((MS.out _ _ _).trans (M2.out 1 (by decide))) ((MS.out _ _ _).trans (M2.out 2 (by decide))) ((MS.out _ _ _).trans (M2.out 3 (by decide))))) rfl ⟨rfl, ?_⟩
  exact (((((B2.out.setCell (show w.heap.size ≤ w.heap.size + 1 + 1 by omega) _).setCell (show w.heap.size ≤ w.heap.size + 1 + 1 by omega) _).setCell (show w.heap.size ≤ w.heap.size + 1 by omega) _).setCell (show w.heap.size ≤ w.heap.size + 1 by omega) _).setCell (show w.heap.size ≤ w.heap.size + 1 by omega) _).setCell (show w.heap.size ≤ w.heap.size + 1 by omega) _
theorem hI_point : (Try.prog.info? 58).map (fun i => (i.zero, i.size, i.bytes)) = some (some (.agg #[.int .i64 0, .int .i64 0, .int .i64 0, .int .i64 0]), 4, 32) := by kernel_rfl
set_option maxRecDepth 100000 in
set_option maxHeartbeats 3200000 in
theorem c_toPointS (A : Option Addr) (c : Nat) (es : List El) (w : World) (rd : RdE 4 0 w A es.length es) (hn : es.length ≤ 1048576) :
    Calls Try.prog 8 #[.slice A es.length c] w (CopyP 4 0 58 es w) := by
  have RD := Lib.hid rd
  clear rd
  obtain ⟨n, hnn⟩ : ∃ n, es.length = n := ⟨_, rfl⟩
  have HN := Lib.hid hnn
  unfold CopyP
  rw [hnn] at RD hn ⊢
  clear hnn
  have hmk := run_make_rows (P := Try.prog) 25 58 (.agg #[.int .i64 0, .int .i64 0, .int .i64 0, .int .i64 0]) 4 32 Try.underlying25 hI_point n (by omega) (by omega)
  go_enter Try.func8, Try.ntmps8
  go_wp2_with fail
  clear hmk
  have hrow0 := rowIs_new w (madeCells (Value.agg #[.int .i64 0, .int .i64 0, .int .i64 0, .int .i64 0]).cells (n * 4)) 58 (size_madeCells _ _)
  have M0 := Lib.hid (Mid.start (p := 4) (q := 0) hrow0)
  have B0 : Hid (Below w.heap.size w (w.alloc (.cells (madeCells (Value.agg #[.int .i64 0, .int .i64 0, .int .i64 0, .int .i64 0]).cells (n * 4)) 58))) := Lib.hid ((Below.refl _ _).alloc (Nat.le_refl _) _)
  clear hrow0
  go_loopg [4] n (fun mm i wx => ∃ (k : Nat) (es' : List El) (f : Nat → Value) (wz : World), wz = wx ∧ k ≤ n ∧ mm = n - k ∧ i = .int .i64 k ∧ Hid (Mid 4 0 58 wz w.heap.size n k es' f) ∧ Hid (dats es' = (dats es).take k) ∧ Hid (Below w.heap.size w wz))
  case atStart => exact ⟨0, [], _, _, rfl, Nat.zero_le _, rfl, rfl, M0, Lib.hid rfl, B0⟩
  case round =>
    obtain ⟨k, es', f, wz, rfl, hk, rfl, rfl, hM, hd, hb⟩ := hrel
    clear M0 B0
    by_cases hlt : k < n
    · have hltI : (k : Int) < (n : Int) := by omega
      obtain ⟨b, off, x1, x2, x3, x4, rfl, _, he, hi0, hi1, hc0, hc1⟩ := (RD.out.below hb.out).point hlt
      have HT := Lib.hid (c_toPoint x1 x2 x3 x4 wz)
      have HE := Lib.hid he
      clear he
      go_wp2_with fail
      refine HT.out.mono ?_
      rintro e w1 ⟨rfl, b1⟩
      have B1 := Lib.hid b1
      have hrow1 := (hM.out.below b1).row
      have hs0 := hrow1.cell (i := k * 4) (by omega)
      have hs1 := hrow1.cell (i := k * 4 + 1) (by omega)
      have hs2 := hrow1.cell (i := k * 4 + 2) (by omega)
      have hs3 := hrow1.cell (i := k * 4 + 3) (by omega)
      have hf0 := hrow1.frozen (k * 4)
      have hf1 := hrow1.frozen (k * 4 + 1)
      have hf2 := hrow1.frozen (k * 4 + 2)
      have hf3 := hrow1.frozen (k * 4 + 3)
      have HR := Lib.hid hrow1
      clear HT b1 hrow1
      go_wp2_with fail
      go_roundg (n - (k + 1))
      case measure => omega
      case rel =>
        have hlen : (es'.flatMap El.cells).length = k * 4 := by
          rw [flat_len (m := 4) (fun e he => El.cells_len (hM.out.fit e he).1 (hM.out.fit e he).2), hM.out.len]
        refine ⟨k + 1, es' ++ [⟨[x1, x2, x3, x4], []⟩], _, _, rfl, by omega, rfl, by go_num, Lib.hid (hM.out.step B1.out (fun base E v m us hg ho => own_set (own_set (own_set (own_set ho hg _) hg _) hg _) hg _) ((((HR.out.set (k * 4) _).set (k * 4 + 1) _).set (k * 4 + 2) _).set (k * 4 + 3) _) ?_ ⟨rfl, rfl⟩ ?_ ?_), Lib.hid ?_, Lib.hid ?_⟩
        · intro j hj
          rw [List.flatMap_append, List.flatMap_singleton]
          show _ = (es'.flatMap El.cells ++ [Value.int .i64 x1, Value.int .i64 x2, Value.int .i64 x3, Value.int .i64 x4]).getD j undef
          rw [getD_four hlen]
          by_cases e3 : j = k * 4 + 3
          · simp [e3]
          · by_cases e2 : j = k * 4 + 2
            · simp [e2]
            · by_cases e1 : j = k * 4 + 1
              · simp [e1]
              · by_cases e0 : j = k * 4
                · simp [e0]
                · simp only [e0, e1, e2, e3, if_false]
                  exact hM.out.said j (by omega)
        · intro r hr
          simp at hr
        · exact List.Pairwise.nil
        · exact dats_step hd.out HE.out rfl
        · exact ((((Below.next hb.out B1.out).setCell (Nat.le_refl _) _).setCell (Nat.le_refl _) _).setCell (Nat.le_refl _) _).setCell (Nat.le_refl _) _
    · obtain rfl : k = n := by omega
      have hdd : Hid (dats es' = dats es) := Lib.hid (by rw [hd.out, List.take_of_length_le (by simp [HN.out])])
      go_wp2_with fail
      exact bodyPost_ret (results_tmp rfl _ _ _) rfl ⟨w.heap.size, es', rfl, hM.out.own (Nat.le_refl _), hdd.out, hb.out⟩
set_option maxHeartbeats 1600000 in
theorem c_eqPoint (x1 x2 x3 x4 : Int) (w : World) :
    Calls Try.prog 29 #[pv x1 x2 x3 x4, pv x1 x2 x3 x4] w fun e w' => e = .returned (.bool true) ∧ Below w.heap.size w w' := by
  go_enter Try.func29, Try.ntmps29
  go_wp2_with fail
  refine (c_eqDyadic_same _ _ _).mono ?_
  rintro e w1 ⟨rfl, b1⟩
  have k0 : w1.cell? ⟨w.heap.size, 2, none⟩ = some (.int .i64 x3) := bkeep b1 _ _ (by simp [go_sem])
  have k1 : w1.cell? ⟨w.heap.size + 1, 2, none⟩ = some (.int .i64 x3) := bkeep b1 _ _ (by simp [go_sem])
  have k2 : w1.cell? ⟨w.heap.size, 3, none⟩ = some (.int .i64 x4) := bkeep b1 _ _ (by simp [go_sem])
  have k3 : w1.cell? ⟨w.heap.size + 1, 3, none⟩ = some (.int .i64 x4) := bkeep b1 _ _ (by simp [go_sem])
  have B1 : Hid (Below w.heap.size w w1) := Lib.hid (Below.next (by go_grown) b1)
  clear b1
  go_wp2_with fail
  refine (c_eqDyadic_same _ _ _).mono ?_
  rintro e w2 ⟨rfl, b2⟩
  have B2 := Lib.hid (Below.next B1.out b2)
  clear b2
  go_wp2_with fail
  go_ret
  exact ⟨rfl, B2.out⟩
theorem dat_point {es : List El} {k : Nat} {x1 x2 x3 x4 : Int} (h : es[k]? = some ⟨[x1, x2, x3, x4], []⟩) : (dats es)[k]? = some ([x1, x2, x3, x4], []) := by
  unfold dats
  rw [List.getElem?_map, h]
  rfl
set_option maxRecDepth 100000 in
set_option maxHeartbeats 3200000 in
theorem c_eqPointS (A B : Option Addr) (c d : Nat) (es fs : List El) (n : Nat) (w : World) (ra : RdE 4 0 w A n es) (rb : RdE 4 0 w B n fs) (he : dats es = dats fs) (hn : n ≤ 1048576) :
    Calls Try.prog 10 #[.slice A n c, .slice B n d] w fun e w' => e = .returned (.bool true) ∧ Below w.heap.size w w' := by
  have RA := Lib.hid ra
  have RB := Lib.hid rb
  have HE := Lib.hid he
  clear ra rb he
  go_enter Try.func10, Try.ntmps10
  go_wp2_with fail
  go_loopg [5] n (fun mm i wx => ∃ (k : Nat) (wz : World), wz = wx ∧ k ≤ n ∧ mm = n - k ∧ i = .int .i64 k ∧ Hid (Below w.heap.size w wz))
  case atStart => exact ⟨0, _, rfl, Nat.zero_le _, rfl, rfl, Lib.hid (Below.refl _ _)⟩
  case round =>
    obtain ⟨k, wz, rfl, hk, rfl, rfl, hb⟩ := hrel
    by_cases hlt : k < n
    · have hltI : (k : Int) < (n : Int) := by omega
      have h0I : (0 : Int) ≤ (k : Int) := by omega
      obtain ⟨b, off, x1, x2, x3, x4, rfl, _, he1, hi0, hi1, hc0, hc1⟩ := (RA.out.below hb.out).point hlt
      obtain ⟨b', off', y1, y2, y3, y4, rfl, _, he2, hi2, hi3, hc2, hc3⟩ := (RB.out.below hb.out).point hlt
      have hdd : y1 = x1 ∧ y2 = x2 ∧ y3 = x3 ∧ y4 = x4 := by
        have h1 := List.getElem?_map (f := El.dat) (l := es) (i := k)
        have h2 := List.getElem?_map (f := El.dat) (l := fs) (i := k)
        rw [he1] at h1
        rw [he2] at h2
        have h3 := HE.out
        unfold dats at h3
        rw [h3, h2] at h1
        simp [El.dat] at h1
        exact h1
      obtain ⟨rfl, rfl, rfl, rfl⟩ := hdd
      clear he1 he2
      go_upto_region 6 with fail
      go_cut [26] (fun v wx => ∃ wy, wy = wx ∧ v = .bool false ∧ Hid (Below w.heap.size w wy))
      case first =>
        go_region_held3 (fun w' => w'.cell? ⟨b, off + k * 4, none⟩ = some (.int .i64 y1) ∧ w'.cell? ⟨b, off + k * 4 + 1, none⟩ = some (.int .i64 y2) ∧ w'.cell? ⟨b, off + k * 4 + 2, none⟩ = some (.int .i64 y3) ∧ w'.cell? ⟨b, off + k * 4 + 3, none⟩ = some (.int .i64 y4) ∧ w'.cell? ⟨b', off' + k * 4, none⟩ = some (.int .i64 y1) ∧ w'.cell? ⟨b', off' + k * 4 + 1, none⟩ = some (.int .i64 y2) ∧ w'.cell? ⟨b', off' + k * 4 + 2, none⟩ = some (.int .i64 y3) ∧ w'.cell? ⟨b', off' + k * 4 + 3, none⟩ = some (.int .i64 y4) ∧ Below wz.heap.size wz w')
          (first | (refine ⟨?_, ?_, ?_, ?_, ?_, ?_, ?_, ?_, ?_⟩ <;> first | go_keep | exact (Below.refl _ _).drew | exact Below.next (And.right (And.right (And.right (And.right (And.right (And.right (And.right (And.right (by assumption))))))))) (by assumption)))
          (first | (go_at_call 29; refine (c_eqPoint _ _ _ _ _).mono ?_; rintro e w' ⟨rfl, b⟩; have hk := bkeep b))
        all_goals
          go_wp2_with fail
          go_meet
          case rel => exact ⟨_, rfl, rfl, Lib.hid (Below.next hb.out (And.right (And.right (And.right (And.right (And.right (And.right (And.right (And.right (by assumption))))))))))⟩
      case rest =>
        obtain ⟨wy, rfl, rfl, hb2⟩ := hcut
        go_wp2_with fail
        go_roundg (n - (k + 1))
        case measure => omega
        case rel => exact ⟨k + 1, _, rfl, by omega, rfl, by go_num, hb2⟩
    · obtain rfl : k = n := by omega
      go_wp2_with fail
      go_ret
      exact ⟨rfl, hb.out⟩
end Go.Proofs.Ytcogdogiceokdaa
