/- Lists and forms are compared. -/
import Derived.Test.YtcogdogiceokdaaFmD
import Derived.Lib.SliceRun
import Derived.Deep.RegionHeld3
import Derived.Deep.DeepCutAuto
import Derived.Deep.CutBlock
import Derived.Deep.WholeRow
namespace Go.Proofs.Ytcogdogiceokdaa
open Go.RowKit

theorem take_eq_succ {xs ys : List Int} {k : Nat} (h1 : k < xs.length) (h2 : k < ys.length) (h : xs.take k = ys.take k) (e : xs.getD k 0 = ys.getD k 0) : xs.take (k + 1) = ys.take (k + 1) := by
  rw [List.take_succ_eq_append_getElem h1, List.take_succ_eq_append_getElem h2, h]
  simp [h1, h2] at e
  rw [e]
set_option maxHeartbeats 1600000 in
theorem c_Equal (A B : Option Addr) (n m c d : Nat) (xs ys : List Int) (w : World) (rx : RdI w A n xs) (ry : RdI w B m ys) (hn : n ≤ 100000000) (hm : m ≤ 100000000) :
    Calls Try.prog 35 #[.slice A n c, .slice B m d] w fun e w' => e = .returned (.bool (decide (xs = ys))) ∧ Q w w' := by
  have hxl : Hid (xs.length = n) := Lib.hid rx.len
  have hyl : Hid (ys.length = m) := Lib.hid ry.len
  by_cases hnm : n = m
  · subst hnm
    obtain ⟨z, hz⟩ : ∃ z, Hid (decide (xs = ys) = z) := ⟨_, Lib.hid rfl⟩
    rw [hz.out]
    go_enter Try.func35, Try.ntmps35
    go_wp2_with fail
    go_loopw [13] (fun i wr => ∃ k : Nat, k ≤ n ∧ i = .int .i64 k ∧ Q w wr ∧ Hid (xs.take k = ys.take k)) (fun i _ => n - (intOf i).toNat)
    case atStart => exact ⟨0, Nat.zero_le _, rfl, Q.refl _, Lib.hid rfl⟩
    case round =>
      rename_i wr
      obtain ⟨k, hk, rfl, q, hd⟩ := hrel
      by_cases h1 : k < n
      · obtain ⟨b, off, rfl, _, hc⟩ := (rx.q q).at_ h1
        obtain ⟨b', off', rfl, _, hc'⟩ := (ry.q q).at_ h1
        have hs := Lib.hid (take_eq_succ (xs := xs) (ys := ys) (k := k) (by rw [hxl.out]; exact h1) (by rw [hyl.out]; exact h1) hd.out)
        have hne : Hid (xs = ys → xs.getD k 0 = ys.getD k 0) := Lib.hid (fun h => by rw [h])
        generalize xs.getD k 0 = x at *
        generalize ys.getD k 0 = y at *
        have Q' := Lib.hid q
        clear rx ry q
        have h1' : (k : Int) < n := by omega
        by_cases hxy : x = y
        · have hs2 := Lib.hid (hs.out hxy)
          clear hs hne
          subst hxy
          go_wp2_with fail
          go_quiet (fail)
          go_wp2_with fail
          go_roundw
          case rel => exact ⟨k + 1, by omega, by go_num, Q'.out.drew _, hs2⟩
          case measure => simp [intOf]; omega
        · have fin : Hid (z = false) := Lib.hid (by rw [← hz.out]; exact decide_eq_false (fun h => hxy (hne.out h)))
          have e1 : (x == y) = false := by simpa using hxy
          have e2 : (x != y) = true := by simpa using hxy
          go_wp2_with fail
          go_quiet (fail)
          go_wp2_with fail
          go_ret
          exact ⟨ret_bool fin.out.symm, Q'.out.drew _⟩
      · obtain rfl : k = n := by omega
        have fin : Hid (z = true) := Lib.hid (by
          rw [← hz.out]
          have := hd.out
          rw [List.take_of_length_le (by rw [hxl.out]; exact Nat.le_refl _), List.take_of_length_le (by rw [hyl.out]; exact Nat.le_refl _)] at this
          exact decide_eq_true this)
        go_wp2_with fail
        go_ret
        exact ⟨ret_bool fin.out.symm, q⟩
  · have fin : Hid (decide (xs = ys) = false) := Lib.hid (decide_eq_false (fun h => hnm (by rw [← hxl.out, ← hyl.out, h])))
    rw [fin.out]
    have hnm2 : ¬ (n : Int) = m := by omega
    have e1 : ((n : Int) == m) = false := by simpa using hnm2
    have e2 : ((n : Int) != m) = true := by simpa using hnm2
    go_enter Try.func35, Try.ntmps35
    go_wp2_with fail
    go_ret
    exact ⟨rfl, Q.refl _⟩
set_option maxHeartbeats 1600000 in
theorem s_l1Same (A B : Option Addr) (n m c d : Nat) (xs ys : List Int) (w : World) (rx : RdI w A n xs) (ry : RdI w B m ys) (hn : n ≤ 100000000) (hm : m ≤ 100000000) :
    Calls Try.prog 49 #[.slice A n c, .slice B m d] w fun e w' => e = .returned (.bool (decide (xs = ys))) ∧ Q w w' := by
  have hxl : Hid (xs.length = n) := Lib.hid rx.len
  have hyl : Hid (ys.length = m) := Lib.hid ry.len
  by_cases hnm : n = m
  · subst hnm
    obtain ⟨z, hz⟩ : ∃ z, Hid (decide (xs = ys) = z) := ⟨_, Lib.hid rfl⟩
    rw [hz.out]
    go_enter Try.func49, Try.ntmps49
    go_wp2_with fail
    go_loopw [5] (fun i wr => ∃ k : Nat, k ≤ n ∧ i = .int .i64 k ∧ Q w wr ∧ Hid (xs.take k = ys.take k)) (fun i _ => n - (intOf i).toNat)
    case atStart => exact ⟨0, Nat.zero_le _, rfl, Q.refl _, Lib.hid rfl⟩
    case round =>
      rename_i wr
      obtain ⟨k, hk, rfl, q, hd⟩ := hrel
      by_cases h1 : k < n
      · obtain ⟨b, off, rfl, _, hc⟩ := (rx.q q).at_ h1
        obtain ⟨b', off', rfl, _, hc'⟩ := (ry.q q).at_ h1
        have hs := Lib.hid (take_eq_succ (xs := xs) (ys := ys) (k := k) (by rw [hxl.out]; exact h1) (by rw [hyl.out]; exact h1) hd.out)
        have hne : Hid (xs = ys → xs.getD k 0 = ys.getD k 0) := Lib.hid (fun h => by rw [h])
        generalize xs.getD k 0 = x at *
        generalize ys.getD k 0 = y at *
        have Q' := Lib.hid q
        clear rx ry q
        have h1' : (k : Int) < n := by omega
        by_cases hxy : x = y
        · have hs2 := Lib.hid (hs.out hxy)
          clear hs hne
          subst hxy
          go_wp2_with fail
          go_quiet (fail)
          go_wp2_with fail
          go_roundw
          case rel => exact ⟨k + 1, by omega, by go_num, Q'.out.drew _, hs2⟩
          case measure => simp [intOf]; omega
        · have fin : Hid (z = false) := Lib.hid (by rw [← hz.out]; exact decide_eq_false (fun h => hxy (hne.out h)))
          have e1 : (x == y) = false := by simpa using hxy
          have e2 : (x != y) = true := by simpa using hxy
          go_wp2_with fail
          go_quiet (fail)
          go_wp2_with fail
          go_ret
          exact ⟨ret_bool fin.out.symm, Q'.out.drew _⟩
      · obtain rfl : k = n := by omega
        have fin : Hid (z = true) := Lib.hid (by
          rw [← hz.out]
          have := hd.out
          rw [List.take_of_length_le (by rw [hxl.out]; exact Nat.le_refl _), List.take_of_length_le (by rw [hyl.out]; exact Nat.le_refl _)] at this
          exact decide_eq_true this)
        go_wp2_with fail
        go_ret
        exact ⟨ret_bool fin.out.symm, q⟩
  · have fin : Hid (decide (xs = ys) = false) := Lib.hid (decide_eq_false (fun h => hnm (by rw [← hxl.out, ← hyl.out, h])))
    rw [fin.out]
    have hnm2 : ¬ (n : Int) = m := by omega
    have e1 : ((n : Int) == m) = false := by simpa using hnm2
    have e2 : ((n : Int) != m) = true := by simpa using hnm2
    go_enter Try.func49, Try.ntmps49
    go_wp2_with fail
    go_ret
    exact ⟨rfl, Q.refl _⟩
set_option maxHeartbeats 1600000 in
theorem c_eqNode (A B A' B' : Option Addr) (c d c' d' : Nat) (xs ys : List Int) (w : World) (r1 : RdI w A xs.length xs) (r2 : RdI w B ys.length ys) (r3 : RdI w A' xs.length xs) (r4 : RdI w B' ys.length ys) (hx : xs.length ≤ 1048576) (hy : ys.length ≤ 1048576) :
    Calls Try.prog 51 #[.agg #[.slice A xs.length c, .slice B ys.length d], .agg #[.slice A' xs.length c', .slice B' ys.length d']] w fun e w' => e = .returned (.bool true) ∧ Below w.heap.size w w' := by
  have H1 := Lib.hid (fun W (hb : Below w.heap.size w W) => c_eqIntS_same A A' _ c c' xs W (r1.below hb) (r3.below hb) hx)
  have H2 := Lib.hid (fun W (hb : Below w.heap.size w W) => c_eqIntS_same B B' _ d d' ys W (r2.below hb) (r4.below hb) hy)
  clear r1 r2 r3 r4
  go_enter Try.func51, Try.ntmps51
  go_wp2_with fail
  refine (H1.out _ (by go_grown)).mono ?_
  rintro e w1 ⟨rfl, q1⟩
  have b1 := q1.below
  have k0 : w1.cell? ⟨w.heap.size, 1, none⟩ = some (.slice B ys.length d) := bkeep b1 _ _ (by simp [go_sem])
  have k1 : w1.cell? ⟨w.heap.size + 1, 1, none⟩ = some (.slice B' ys.length d') := bkeep b1 _ _ (by simp [go_sem])
  have B1 : Hid (Below w.heap.size w w1) := Lib.hid (Below.next (by go_grown) b1)
  clear q1 b1
  go_wp2_with fail
  refine (H2.out _ B1.out).mono ?_
  rintro e w2 ⟨rfl, q2⟩
  have B2 := Lib.hid (Below.next B1.out q2.below)
  clear q2
  go_wp2_with fail
  go_ret
  exact ⟨rfl, B2.out⟩
set_option maxRecDepth 100000 in
set_option maxHeartbeats 3200000 in
theorem c_eqNodeS (A B : Option Addr) (c d : Nat) (es fs : List El) (n : Nat) (w : World) (ra : RdE 0 2 w A n es) (rb : RdE 0 2 w B n fs) (he : dats es = dats fs) (hn : n ≤ 1048576) (hl : ∀ e ∈ es, ∀ r ∈ e.rs, r.xs.length ≤ 1048576) :
    Calls Try.prog 36 #[.slice A n c, .slice B n d] w fun e w' => e = .returned (.bool true) ∧ Below w.heap.size w w' := by
  have RA := Lib.hid ra
  have RB := Lib.hid rb
  have HE := Lib.hid he
  have HL := Lib.hid hl
  clear ra rb he hl
  go_enter Try.func36, Try.ntmps36
  go_wp2_with fail
  go_loopg [5] n (fun mm i wx => ∃ (k : Nat) (wz : World), wz = wx ∧ k ≤ n ∧ mm = n - k ∧ i = .int .i64 k ∧ Hid (Below w.heap.size w wz))
  case atStart => exact ⟨0, _, rfl, Nat.zero_le _, rfl, rfl, Lib.hid (Below.refl _ _)⟩
  case round =>
    obtain ⟨k, wz, rfl, hk, rfl, rfl, hb⟩ := hrel
    by_cases hlt : k < n
    · have hltI : (k : Int) < (n : Int) := by omega
      have h0I : (0 : Int) ≤ (k : Int) := by omega
      obtain ⟨b, off, A1, c1, xs, A2, c2, ys, rfl, _, he1, r1, r2, hc0, hc1⟩ := (RA.out.below hb.out).node hlt
      obtain ⟨b', off', A3, c3, xs', A4, c4, ys', rfl, _, he2, r3, r4, hc2, hc3⟩ := (RB.out.below hb.out).node hlt
      have hm := HL.out _ (List.mem_of_getElem? he1)
      have hx1 : xs.length ≤ 1048576 := hm ⟨A1, c1, xs⟩ (by simp)
      have hx2 : ys.length ≤ 1048576 := hm ⟨A2, c2, ys⟩ (by simp)
      have hdd : xs' = xs ∧ ys' = ys := by
        have h1 := List.getElem?_map (f := El.dat) (l := es) (i := k)
        have h2 := List.getElem?_map (f := El.dat) (l := fs) (i := k)
        rw [he1] at h1
        rw [he2] at h2
        have h3 := HE.out
        unfold dats at h3
        rw [h3, h2] at h1
        simp [El.dat] at h1
        exact h1
      obtain ⟨rfl, rfl⟩ := hdd
      have HN := Lib.hid (fun W (hbb : Below wz.heap.size wz W) => c_eqNode A1 A2 A3 A4 c1 c2 c3 c4 xs' ys' W (r1.below hbb) (r2.below hbb) (r3.below hbb) (r4.below hbb) hx1 hx2)
      clear he1 he2 hm r1 r2 r3 r4 hx1 hx2
      go_upto_region 6 with fail
      go_cut [26] (fun v wx => ∃ wy, wy = wx ∧ v = .bool false ∧ Hid (Below w.heap.size w wy))
      case first =>
        go_region_held3 (fun w' => w'.cell? ⟨b, off + k * 2, none⟩ = some (.slice A1 xs'.length c1) ∧ w'.cell? ⟨b, off + k * 2 + 1, none⟩ = some (.slice A2 ys'.length c2) ∧ w'.cell? ⟨b', off' + k * 2, none⟩ = some (.slice A3 xs'.length c3) ∧ w'.cell? ⟨b', off' + k * 2 + 1, none⟩ = some (.slice A4 ys'.length c4) ∧ Below wz.heap.size wz w')
          (first | (refine ⟨?_, ?_, ?_, ?_, ?_⟩ <;> first | go_keep | exact (Below.refl _ _).drew | exact Below.next (And.right (And.right (And.right (And.right (by assumption))))) (by assumption)))
          (first | (go_at_call 51; refine (HN.out _ (And.right (And.right (And.right (And.right (by assumption)))))).mono ?_; rintro e w' ⟨rfl, b⟩; have hk := bkeep b))
        all_goals
          go_wp2_with fail
          go_meet
          case rel => exact ⟨_, rfl, rfl, Lib.hid (Below.next hb.out (And.right (And.right (And.right (And.right (by assumption))))))⟩
      case rest =>
        obtain ⟨wy, rfl, rfl, hb2⟩ := hcut
        go_wp2_with fail
        go_roundg (n - (k + 1))
        case measure => omega
        case rel => exact ⟨k + 1, _, rfl, by omega, rfl, by go_num, hb2⟩
    · obtain rfl : k = n := by omega
      go_wp2_with fail
      go_ret
      exact ⟨rfl, hb.out⟩
set_option maxHeartbeats 800000 in
theorem c_eqForm (A B : Option Addr) (c d : Nat) (es fs : List El) (n : Nat) (w : World) (ra : RdE 0 2 w A n es) (rb : RdE 0 2 w B n fs) (he : dats es = dats fs) (hn : n ≤ 1048576) (hl : ∀ e ∈ es, ∀ r ∈ e.rs, r.xs.length ≤ 1048576) :
    Calls Try.prog 15 #[.agg #[.slice A n c], .agg #[.slice B n d]] w fun e w' => e = .returned (.bool true) ∧ Below w.heap.size w w' := by
  have HN := Lib.hid (fun W (hb : Below w.heap.size w W) => c_eqNodeS A B c d es fs n W (ra.below hb) (rb.below hb) he hn hl)
  clear ra rb he hl
  go_enter Try.func15, Try.ntmps15
  go_wp2_with fail
  refine (HN.out _ (by go_grown)).mono ?_
  rintro e w1 ⟨rfl, b1⟩
  have B1 : Hid (Below w.heap.size w w1) := Lib.hid (Below.next (by go_grown) b1)
  clear b1 HN
  go_wp2_with fail
  go_ret
  exact ⟨rfl, B1.out⟩
theorem dat_node {es : List El} {k : Nat} {A1 A2 : Option Addr} {c1 c2 : Nat} {xs ys : List Int} (h : es[k]? = some ⟨[], [⟨A1, c1, xs⟩, ⟨A2, c2, ys⟩]⟩) : (dats es)[k]? = some ([], [xs, ys]) := by
  unfold dats
  rw [List.getElem?_map, h]
  rfl
theorem take_dat {l m : List (List Int × List (List Int))} {k : Nat} {d e : List Int × List (List Int)} (h1 : l[k]? = some d) (h2 : m[k]? = some e) (ht : l.take k = m.take k) (hd : d = e) : l.take (k + 1) = m.take (k + 1) := by
  obtain ⟨a1, a2⟩ := List.getElem?_eq_some_iff.1 h1
  obtain ⟨b1, b2⟩ := List.getElem?_eq_some_iff.1 h2
  rw [List.take_succ_eq_append_getElem a1, List.take_succ_eq_append_getElem b1, ht, a2, b2, hd]
set_option maxRecDepth 100000 in
set_option maxHeartbeats 1600000 in
theorem s_l3Same (A B : Option Addr) (c d : Nat) (es fs : List El) (n m : Nat) (w : World) (ra : RdE 0 2 w A n es) (rb : RdE 0 2 w B m fs) (hn : n ≤ 1048576) (hm : m ≤ 1048576) (hl : ∀ e ∈ es, ∀ r ∈ e.rs, r.xs.length ≤ 1048576) (hl2 : ∀ e ∈ fs, ∀ r ∈ e.rs, r.xs.length ≤ 1048576) :
    Calls Try.prog 31 #[.agg #[.slice A n c], .agg #[.slice B m d]] w fun e w' => e = .returned (.bool (decide (dats es = dats fs))) ∧ Below w.heap.size w w' := by
  have RA := Lib.hid ra
  have RB := Lib.hid rb
  have HL := Lib.hid hl
  have HL2 := Lib.hid hl2
  have HA : Hid ((dats es).length = n) := Lib.hid (by simpa using ra.len)
  have HB : Hid ((dats fs).length = m) := Lib.hid (by simpa using rb.len)
  clear ra rb hl hl2
  by_cases hnm : n = m
  · subst hnm
    obtain ⟨z, hz⟩ : ∃ z, Hid (decide (dats es = dats fs) = z) := ⟨_, Lib.hid rfl⟩
    rw [hz.out]
    go_enter Try.func31, Try.ntmps31
    go_wp2_with fail
    have B0 : Hid (Below w.heap.size w ((w.alloc (.cells #[.slice A n c] 36)).alloc (.cells #[.slice B n d] 36))) := Lib.hid (by go_grown)
    go_loopg [5] n (fun mm i wx => ∃ (k : Nat) (wz : World), wz = wx ∧ k ≤ n ∧ mm = n - k ∧ i = .int .i64 k ∧ wz.cell? ⟨w.heap.size, 0, none⟩ = some (.slice A n c) ∧ wz.cell? ⟨w.heap.size + 1, 0, none⟩ = some (.slice B n d) ∧ Hid (Below w.heap.size w wz) ∧ Hid ((dats es).take k = (dats fs).take k))
    case atStart => exact ⟨0, _, rfl, Nat.zero_le _, rfl, rfl, by simp [go_sem], by simp [go_sem], B0, Lib.hid rfl⟩
    case round =>
      obtain ⟨k, wz, rfl, hk, rfl, rfl, hcA, hcB, hb, hd⟩ := hrel
      clear B0
      by_cases hlt : k < n
      · have hltI : (k : Int) < (n : Int) := by omega
        have h0I : (0 : Int) ≤ (k : Int) := by omega
        obtain ⟨b, off, A1, c1, xs, A2, c2, ys, rfl, _, he1, r1, r2, hc0, hc1⟩ := (RA.out.below hb.out).node hlt
        obtain ⟨b', off', A3, c3, xs', A4, c4, ys', rfl, _, he2, r3, r4, hc2, hc3⟩ := (RB.out.below hb.out).node hlt
        have hm1 := HL.out _ (List.mem_of_getElem? he1)
        have hm2 := HL2.out _ (List.mem_of_getElem? he2)
        have hx1 : xs.length ≤ 1048576 := hm1 ⟨A1, c1, xs⟩ (by simp)
        have hx2 : ys.length ≤ 1048576 := hm1 ⟨A2, c2, ys⟩ (by simp)
        have hx3 : xs'.length ≤ 1048576 := hm2 ⟨A3, c3, xs'⟩ (by simp)
        have hx4 : ys'.length ≤ 1048576 := hm2 ⟨A4, c4, ys'⟩ (by simp)
        have D1 := Lib.hid (dat_node he1)
        have D2 := Lib.hid (dat_node he2)
        have HB1 := Lib.hid (fun (m : Nat) => Q.quiet (n := m) (s_l1Same A1 A3 _ _ c1 c3 xs xs' (wz.drewN m) (RdI.q r1 ((Q.refl wz).drew m)) (RdI.q r3 ((Q.refl wz).drew m)) (by omega) (by omega)))
        have HB2 := Lib.hid (fun (m : Nat) => Q.quiet (n := m) (s_l1Same A2 A4 _ _ c2 c4 ys ys' (wz.drewN m) (RdI.q r2 ((Q.refl wz).drew m)) (RdI.q r4 ((Q.refl wz).drew m)) (by omega) (by omega)))
        have hne : Hid (¬ (xs = xs' ∧ ys = ys') → z = false) := Lib.hid (fun h => by
          rw [← hz.out]
          refine decide_eq_false (fun e => h ?_)
          have h1 := D1.out
          rw [e, D2.out] at h1
          simp at h1
          exact ⟨h1.1.symm, h1.2.symm⟩)
        clear he1 he2 hm1 hm2 r1 r2 r3 r4 hx1 hx2 hx3 hx4
        by_cases e1 : xs = xs'
        · rw [decide_eq_true e1] at HB1
          by_cases e2 : ys = ys'
          · rw [decide_eq_true e2] at HB2
            have hd2 : Hid ((dats es).take (k + 1) = (dats fs).take (k + 1)) := Lib.hid (take_dat D1.out D2.out hd.out (by rw [e1, e2]))
            clear hne e1 e2 D1 D2
            go_wp2_with fail
            go_quiet (first | (go_at_call_of 49 (Value.slice A1 xs.length c1); exact HB1.out _) | (go_at_call_of 49 (Value.slice A2 ys.length c2); exact HB2.out _))
            have hq := Q.refl wz
            go_wp2_with fail
            go_roundg (n - (k + 1))
            case measure => omega
            case rel => exact ⟨k + 1, _, rfl, by omega, rfl, by go_num, by simpa using hcA, by simpa using hcB, Lib.hid (Below.next hb.out (((Q.refl wz).drew _).below)), hd2⟩
          · rw [decide_eq_false e2] at HB2
            have hzf := hne.out (fun h => e2 h.2)
            subst hzf
            clear hne e1 e2 D1 D2
            go_wp2_with fail
            go_quiet (first | (go_at_call_of 49 (Value.slice A1 xs.length c1); exact HB1.out _) | (go_at_call_of 49 (Value.slice A2 ys.length c2); exact HB2.out _))
            go_wp2_with fail
            go_ret
            exact ⟨rfl, Below.next hb.out (((Q.refl wz).drew _).below)⟩
        · rw [decide_eq_false e1] at HB1
          have hzf := hne.out (fun h => e1 h.1)
          subst hzf
          clear hne e1 D1 D2
          go_wp2_with fail
          go_quiet ((go_at_call 49; exact HB1.out _))
          go_wp2_with fail
          go_ret
          exact ⟨rfl, Below.next hb.out (((Q.refl wz).drew _).below)⟩
      · obtain rfl : k = n := by omega
        have hzt : z = true := by
          rw [← hz.out]
          have := hd.out
          rw [List.take_of_length_le (by rw [HA.out]; exact Nat.le_refl _), List.take_of_length_le (by rw [HB.out]; exact Nat.le_refl _)] at this
          exact decide_eq_true this
        subst hzt
        go_wp2_with fail
        go_ret
        exact ⟨rfl, hb.out⟩
  · have fin : decide (dats es = dats fs) = false := decide_eq_false (fun h => hnm (by rw [← HA.out, ← HB.out, h]))
    rw [fin]
    have hnm2 : ¬ (n : Int) = m := by omega
    have e1 : ((n : Int) == m) = false := by simpa using hnm2
    have e2 : ((n : Int) != m) = true := by simpa using hnm2
    clear fin
    go_enter Try.func31, Try.ntmps31
    go_wp2_with fail
    go_ret
    exact ⟨rfl, by go_grown⟩
set_option maxHeartbeats 800000 in
theorem s_SameForm (A B : Option Addr) (c d : Nat) (es fs : List El) (n m : Nat) (w : World) (ra : RdE 0 2 w A n es) (rb : RdE 0 2 w B m fs) (hn : n ≤ 1048576) (hm : m ≤ 1048576) (hl : ∀ e ∈ es, ∀ r ∈ e.rs, r.xs.length ≤ 1048576) (hl2 : ∀ e ∈ fs, ∀ r ∈ e.rs, r.xs.length ≤ 1048576) :
    Calls Try.prog 12 #[.agg #[.slice A n c], .agg #[.slice B m d]] w fun e w' => e = .returned (.bool (decide (dats es = dats fs))) ∧ Below w.heap.size w w' := by
  have HN := Lib.hid (fun W (hb : Below w.heap.size w W) => s_l3Same A B c d es fs n m W (ra.below hb) (rb.below hb) hn hm hl hl2)
  clear ra rb hl hl2
  go_enter Try.func12, Try.ntmps12
  go_wp2_with fail
  refine (HN.out _ (by go_grown)).mono ?_
  rintro e w1 ⟨rfl, b1⟩
  have B1 : Hid (Below w.heap.size w w1) := Lib.hid (Below.next (by go_grown) b1)
  clear b1 HN
  go_wp2_with fail
  go_ret
  exact ⟨rfl, B1.out⟩
set_option maxHeartbeats 1600000 in
theorem c_nodesEq (A B A' B' : Option Addr) (c d c' d' : Nat) (xs ys xs' ys' : List Int) (w : World) (r1 : RdI w A xs.length xs) (r2 : RdI w B ys.length ys) (r3 : RdI w A' xs'.length xs') (r4 : RdI w B' ys'.length ys') (hx : xs.length ≤ 1048576) (hy : ys.length ≤ 1048576) (hx' : xs'.length ≤ 1048576) (hy' : ys'.length ≤ 1048576) :
    Calls Try.prog 34 #[.agg #[.slice A xs.length c, .slice B ys.length d], .agg #[.slice A' xs'.length c', .slice B' ys'.length d']] w fun e w' => e = .returned (.bool (decide (xs = xs') && decide (ys = ys'))) ∧ Below w.heap.size w w' := by
  have H1 := Lib.hid (fun W (hb : Below w.heap.size w W) => c_Equal A A' _ _ c c' xs xs' W (r1.below hb) (r3.below hb) (by omega) (by omega))
  have H2 := Lib.hid (fun W (hb : Below w.heap.size w W) => c_Equal B B' _ _ d d' ys ys' W (r2.below hb) (r4.below hb) (by omega) (by omega))
  clear r1 r2 r3 r4
  obtain ⟨u, hu⟩ : ∃ u, decide (xs = xs') = u := ⟨_, rfl⟩
  obtain ⟨v, hv⟩ : ∃ v, decide (ys = ys') = v := ⟨_, rfl⟩
  rw [hu] at H1 ⊢
  rw [hv] at H2 ⊢
  clear hu hv
  cases u
  · go_enter Try.func34, Try.ntmps34
    go_wp2_with fail
    refine (H1.out _ (by go_grown)).mono ?_
    rintro e w1 ⟨rfl, q1⟩
    have B1 : Hid (Below w.heap.size w w1) := Lib.hid (Below.next (by go_grown) q1.below)
    clear q1
    go_wp2_with fail
    go_ret
    exact ⟨rfl, B1.out⟩
  · go_enter Try.func34, Try.ntmps34
    go_wp2_with fail
    refine (H1.out _ (by go_grown)).mono ?_
    rintro e w1 ⟨rfl, q1⟩
    have b1 := q1.below
    have k0 : w1.cell? ⟨w.heap.size, 1, none⟩ = some (.slice B ys.length d) := bkeep b1 _ _ (by simp [go_sem])
    have k1 : w1.cell? ⟨w.heap.size + 1, 1, none⟩ = some (.slice B' ys'.length d') := bkeep b1 _ _ (by simp [go_sem])
    have B1 : Hid (Below w.heap.size w w1) := Lib.hid (Below.next (by go_grown) b1)
    clear q1 b1
    go_wp2_with fail
    refine (H2.out _ B1.out).mono ?_
    rintro e w2 ⟨rfl, q2⟩
    have B2 := Lib.hid (Below.next B1.out q2.below)
    clear q2
    go_wp2_with fail
    go_ret
    exact ⟨by simp, B2.out⟩
end Go.Proofs.Ytcogdogiceokdaa
