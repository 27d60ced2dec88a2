/- UsesOf: the reference's and the program's (printed by gen_uses2.py). -/
import Derived.Test.YtcogdogiceokdaaDoorFmJ
namespace Go.Proofs.YtcogdogiceokdaaDoor
open Go.RowKit

theorem listP_lit0 {w wz : World} {m : List Int × Bool} {e : Ending} (h : m = ([], false)) (he : e = .returned (.tuple #[.slice (some ⟨wz.heap.size, 0, none⟩) 0 0, .bool false])) (hb : Below w.heap.size w wz) : ListP w m e (wz.alloc (.cells #[] 3)) := by
  subst h; exact ⟨_, _, he, own_lit0 wz _ _ hb.size, hb.alloc hb.size _⟩
theorem listP_cn {w wz : World} {g n : Nat} {F : List Int} {m : List Int × Bool} {e : Ending} (h : m = (cnt n F, true)) (he : e = .returned (.tuple #[.slice (some ⟨g, 0, none⟩) n n, .bool true])) (hc : Cn w wz g n F) (hn : n ≤ 1048576) : ListP w m e wz := by
  subst h
  exact ⟨some ⟨g, 0, none⟩, (cnt n F).length, by rw [he, cnt_len], hc.own hn, hc.below⟩
theorem low_get {k i : Nat} {xs : List Int} (h : low k xs = true) (hi : i < xs.length) : ∃ m : Nat, xs.getD i 0 = (m : Int) ∧ m < k := by
  have := low_iff.1 h (xs.getD i 0) (by simp [hi])
  exact ⟨(xs.getD i 0).toNat, by omega, by omega⟩
theorem take_app {F xs : List Int} {i m : Nat} (hi : i < xs.length) (h : xs.getD i 0 = (m : Int)) : F ++ xs.take i ++ [(m : Int)] = F ++ xs.take (i + 1) := by
  rw [List.take_succ_eq_append_getElem hi, ← List.append_assoc]
  congr 2
  simpa [hi] using h.symm
theorem flat_len_le {ds : List Dat} {k : Nat} {is xs ys : List Int} (h : ds[k]? = some (is, [xs, ys])) : (flat (ds.take k)).length + xs.length + ys.length ≤ (flat ds).length := by
  have := flat_take_le ds (k + 1)
  rw [flat_take_succ h, List.length_append, List.length_append] at this
  exact this

theorem ix0 (A B : Option Addr) (n m c d : Nat) (w : World) : (Instr.index 64 (.agg #[.slice A n c, .slice B m d]) (.int .i64 0)).run Tryd.prog w = .ok (.slice A n c) w := by kernel_rfl
theorem ix1 (A B : Option Addr) (n m c d : Nat) (w : World) : (Instr.index 64 (.agg #[.slice A n c, .slice B m d]) (.int .i64 1)).run Tryd.prog w = .ok (.slice B m d) w := by kernel_rfl
set_option maxRecDepth 100000 in
set_option maxHeartbeats 1600000 in
theorem c_UsesOf (A : Option Addr) (n c : Nat) (es : List El) (w : World) (rd : RdE 2 2 w A n es) (hn : n ≤ 1048576) (hl : ∀ e ∈ es, ∀ r ∈ e.rs, r.xs.length ≤ 1048576) (ht : tots es ≤ 1048576) :
    Calls Tryd.prog 18 #[.agg #[.slice A n c]] w (ListP w (useC (dats es))) := by
  have RD := Lib.hid rd
  have HA : Hid ((dats es).length = n) := Lib.hid (by simpa using rd.len)
  have HT : Hid ((flat (dats es)).length ≤ 1048576) := Lib.hid (by rw [flat_tots]; exact ht)
  obtain ⟨m0, hm0⟩ : ∃ m, Hid (useC (dats es) = m) := ⟨_, Lib.hid rfl⟩
  rw [hm0.out]
  clear rd hl ht
  by_cases hn2 : n ≤ 200
  rotate_left
  · have fin : Hid (m0 = ([], false)) := Lib.hid (by rw [← hm0.out]; unfold useC; rw [shape_long (by rw [HA.out]; omega)]; rfl)
    have h3 : ¬ (n : Int) ≤ 200 := by omega
    have h4 : (200 : Int) < (n : Int) := by omega
    have B0 : Hid (Below w.heap.size w (w.alloc (.cells #[.slice A n c] 30))) := Lib.hid (by go_grown)
    go_enter Tryd.func18, Tryd.ntmps18
    go_wp2_with fail
    refine bodyPost_ret (results_tmp2 rfl _ _ _) rfl ?_
    exact listP_lit0 (wz := w.alloc (.cells #[.slice A n c] 30)) fin.out (by simp) B0.out
  · have h4 : ¬ (200 : Int) < (n : Int) := by omega
    have hmk := mk_ints n (by omega)
    go_enter Tryd.func18, Tryd.ntmps18
    go_wp2_with fail
    clear hmk
    have C0 : Hid (Cn w ((w.alloc (.cells #[.slice A n c] 30)).alloc (.cells (madeCells #[.int .i64 0] n) 3)) (w.heap.size + 1) n []) := Lib.hid (by
      have := Cn.start (n := n) (show Below w.heap.size w (w.alloc (.cells #[.slice A n c] 30)) by go_grown)
      simpa using this)
    go_loopg [23] n (fun mm i wx => ∃ (k : Nat) (wz : World), wz = wx ∧ k ≤ n ∧ mm = n - k ∧ i = .int .i64 k ∧ Hid (Cn w wz (w.heap.size + 1) n (flat ((dats es).take k))) ∧ Hid (∀ j d, j < k → (dats es)[j]? = some d → lowD j d = true))
    case atStart => exact ⟨0, _, rfl, Nat.zero_le _, rfl, rfl, C0, Lib.hid (fun j d hj => by omega)⟩
    case round =>
      obtain ⟨k, wz, rfl, hk, rfl, rfl, hCwz, hinv⟩ := hrel
      clear C0
      by_cases hlt : k < n
      · have hltI : (k : Int) < (n : Int) := by omega
        obtain ⟨b, off, i1, i2, A1, c1, xs, A2, c2, ys, rfl, hbl, he, r1, r2, q0, q1, q2, q3⟩ := RD.out.claim hlt
        have q0 := bkeep hCwz.out.below _ _ q0
        have q1 := bkeep hCwz.out.below _ _ q1
        have q2 := bkeep hCwz.out.below _ _ q2
        have q3 := bkeep hCwz.out.below _ _ q3
        have R1 := Lib.hid r1
        have R2 := Lib.hid r2
        have D1 := Lib.hid (dat_claim he)
        have hfl := flat_len_le D1.out
        have hft := HT.out
        have C1 : Hid (Cn w (wz.alloc (.cells #[.int .i64 i1, .int .i64 i2, .slice A1 xs.length c1, .slice A2 ys.length c2] 47)) (w.heap.size + 1) n (flat ((dats es).take k))) := Lib.hid (hCwz.out.next ((Below.refl _ _).alloc (Nat.le_refl _) _))
        clear he r1 r2
        go_wp2_with fail
        go_loopg [33] 2 (fun mm i wx => ∃ (i2 : Nat) (wv : World), wv = wx ∧ i2 ≤ 2 ∧ mm = 2 - i2 ∧ i = .int .i64 i2 ∧
          ((i2 = 0 ∧ Hid (Cn w wv (w.heap.size + 1) n (flat ((dats es).take k)))) ∨ (i2 = 1 ∧ Hid (Cn w wv (w.heap.size + 1) n (flat ((dats es).take k) ++ xs)) ∧ Hid (low k xs = true)) ∨ (i2 = 2 ∧ Hid (Cn w wv (w.heap.size + 1) n (flat ((dats es).take k) ++ xs ++ ys)) ∧ Hid (low k xs = true) ∧ Hid (low k ys = true))))
        case atStart => exact ⟨0, _, rfl, by decide, rfl, rfl, .inl ⟨rfl, C1⟩⟩
        case round =>
          obtain ⟨i2', wv, rfl, hi2, rfl, rfl, hcase⟩ := hrel
          clear C1 q0 q1 q2 q3
          have hx0 := ix0 A1 A2 xs.length ys.length c1 c2
          have hx1 := ix1 A1 A2 xs.length ys.length c1 c2
          rcases hcase with ⟨rfl, hC0'⟩ | ⟨rfl, hC1, hl1⟩ | ⟨rfl, hC2, hl1, hl2⟩
          · have hC0 := Lib.hid hC0'.out
            go_wp2_with fail
            go_loopg [38] xs.length (fun mm i wx => ∃ (i' : Nat) (wu : World), wu = wx ∧ i' ≤ xs.length ∧ mm = xs.length - i' ∧ i = .int .i64 i' ∧ Hid (Cn w wu (w.heap.size + 1) n (flat ((dats es).take k) ++ xs.take i')) ∧ Hid (low k (xs.take i') = true))
            case atStart => exact ⟨0, _, rfl, Nat.zero_le _, rfl, rfl, Lib.hid (by rw [List.take_zero, List.append_nil]; exact hC0.out), Lib.hid rfl⟩
            case round =>
              obtain ⟨i, wu, rfl, hi, rfl, rfl, hCwu, hlo⟩ := hrel
              by_cases hil : i < xs.length
              · have hiI : (i : Int) < (xs.length : Int) := by omega
                obtain ⟨b3, off3, rfl, _, hcy⟩ := (R1.out.below hCwu.out.below).at_ hil
                have hst := Lib.hid (fun h => low_step hlo.out hil h)
                have hnk : Hid (¬ (0 ≤ xs.getD i 0 ∧ xs.getD i 0 < (k : Int)) → m0 = ([], false)) := Lib.hid (fun h => by
                  rw [← hm0.out]
                  unfold useC
                  rw [shape_bad D1.out (by rw [lowD_two, low_not hil h]; rfl)]
                  rfl)
                have hta : Hid (∀ m : Nat, xs.getD i 0 = (m : Int) → flat ((dats es).take k) ++ xs.take i ++ [(m : Int)] = flat ((dats es).take k) ++ xs.take (i + 1)) := Lib.hid (fun m h => take_app hil h)
                have hFl : (flat ((dats es).take k) ++ xs.take i).length ≤ 1048576 := by rw [List.length_append, List.length_take]; omega
                generalize xs.getD i 0 = y at *
                by_cases hy0 : y < 0
                · have hmf := Lib.hid (hnk.out (by omega))
                  clear hst hnk hta
                  go_wp2_with fail
                  exact bodyPost_ret (results_tmp2 rfl _ _ _) rfl (listP_lit0 hmf.out rfl hCwu.out.below)
                · by_cases hyk : (k : Int) ≤ y
                  · have hmf := Lib.hid (hnk.out (by omega))
                    clear hst hnk hta
                    go_wp2_with fail
                    exact bodyPost_ret (results_tmp2 rfl _ _ _) rfl (listP_lit0 hmf.out rfl hCwu.out.below)
                  · obtain ⟨m, rfl⟩ := Int.eq_ofNat_of_zero_le (show 0 ≤ y by omega)
                    have hmk : m < k := by omega
                    have hlo2 := Lib.hid (hst.out ⟨by omega, by omega⟩)
                    have hF := Lib.hid (hta.out m rfl)
                    obtain ⟨hv0, hv1⟩ := cnt_le (n := n) (j := m) (flat ((dats es).take k) ++ xs.take i) (by omega)
                    have hcm := hCwu.out.row.cell (i := m) (by omega)
                    have hfm := hCwu.out.row.frozen m
                    have hC2 := Lib.hid (hCwu.out.bump (m := m) (by omega))
                    rw [hF.out] at hC2
                    have hmn : (m : Int) < (n : Int) := by omega
                    have hmk2 : (m : Int) < (k : Int) := by omega
                    generalize (cnt n (flat ((dats es).take k) ++ xs.take i)).getD m 0 = v at *
                    have hv2 : v ≤ 1048576 := by omega
                    clear hst hnk hta hF hFl hv1 hlo hy0 hyk
                    go_wp2_with fail
                    go_roundg (xs.length - (i + 1))
                    case measure => omega
                    case rel => exact ⟨i + 1, _, rfl, by omega, rfl, by go_num, hC2, hlo2⟩
              · obtain rfl : i = xs.length := by omega
                have hCe : Hid (Cn w wu (w.heap.size + 1) n (flat ((dats es).take k) ++ xs)) := Lib.hid (by have := hCwu.out; rwa [List.take_length] at this)
                have hle : Hid (low k xs = true) := Lib.hid (by have := hlo.out; rwa [List.take_length] at this)
                go_wp2_with fail
                go_roundg 1
                case measure => omega
                case rel => exact ⟨1, _, rfl, by decide, rfl, rfl, .inr (.inl ⟨rfl, hCe, hle⟩)⟩
          · go_wp2_with fail
            go_loopg [38] ys.length (fun mm i wx => ∃ (i' : Nat) (wu : World), wu = wx ∧ i' ≤ ys.length ∧ mm = ys.length - i' ∧ i = .int .i64 i' ∧ Hid (Cn w wu (w.heap.size + 1) n ((flat ((dats es).take k) ++ xs) ++ ys.take i')) ∧ Hid (low k (ys.take i') = true))
            case atStart => exact ⟨0, _, rfl, Nat.zero_le _, rfl, rfl, Lib.hid (by rw [List.take_zero, List.append_nil]; exact hC1.out), Lib.hid rfl⟩
            case round =>
              obtain ⟨i, wu, rfl, hi, rfl, rfl, hCwu, hlo⟩ := hrel
              by_cases hil : i < ys.length
              · have hiI : (i : Int) < (ys.length : Int) := by omega
                obtain ⟨b3, off3, rfl, _, hcy⟩ := (R2.out.below hCwu.out.below).at_ hil
                have hst := Lib.hid (fun h => low_step hlo.out hil h)
                have hnk : Hid (¬ (0 ≤ ys.getD i 0 ∧ ys.getD i 0 < (k : Int)) → m0 = ([], false)) := Lib.hid (fun h => by
                  rw [← hm0.out]
                  unfold useC
                  rw [shape_bad D1.out (by rw [lowD_two, low_not hil h]; simp)]
                  rfl)
                have hta : Hid (∀ m : Nat, ys.getD i 0 = (m : Int) → (flat ((dats es).take k) ++ xs) ++ ys.take i ++ [(m : Int)] = (flat ((dats es).take k) ++ xs) ++ ys.take (i + 1)) := Lib.hid (fun m h => take_app hil h)
                have hFl : ((flat ((dats es).take k) ++ xs) ++ ys.take i).length ≤ 1048576 := by rw [List.length_append, List.length_take]; rw [List.length_append]; omega
                generalize ys.getD i 0 = y at *
                by_cases hy0 : y < 0
                · have hmf := Lib.hid (hnk.out (by omega))
                  clear hst hnk hta
                  go_wp2_with fail
                  exact bodyPost_ret (results_tmp2 rfl _ _ _) rfl (listP_lit0 hmf.out rfl hCwu.out.below)
                · by_cases hyk : (k : Int) ≤ y
                  · have hmf := Lib.hid (hnk.out (by omega))
                    clear hst hnk hta
                    go_wp2_with fail
                    exact bodyPost_ret (results_tmp2 rfl _ _ _) rfl (listP_lit0 hmf.out rfl hCwu.out.below)
                  · obtain ⟨m, rfl⟩ := Int.eq_ofNat_of_zero_le (show 0 ≤ y by omega)
                    have hmk : m < k := by omega
                    have hlo2 := Lib.hid (hst.out ⟨by omega, by omega⟩)
                    have hF := Lib.hid (hta.out m rfl)
                    obtain ⟨hv0, hv1⟩ := cnt_le (n := n) (j := m) ((flat ((dats es).take k) ++ xs) ++ ys.take i) (by omega)
                    have hcm := hCwu.out.row.cell (i := m) (by omega)
                    have hfm := hCwu.out.row.frozen m
                    have hC2 := Lib.hid (hCwu.out.bump (m := m) (by omega))
                    rw [hF.out] at hC2
                    have hmn : (m : Int) < (n : Int) := by omega
                    have hmk2 : (m : Int) < (k : Int) := by omega
                    generalize (cnt n ((flat ((dats es).take k) ++ xs) ++ ys.take i)).getD m 0 = v at *
                    have hv2 : v ≤ 1048576 := by omega
                    clear hst hnk hta hF hFl hv1 hlo hy0 hyk
                    go_wp2_with fail
                    go_roundg (ys.length - (i + 1))
                    case measure => omega
                    case rel => exact ⟨i + 1, _, rfl, by omega, rfl, by go_num, hC2, hlo2⟩
              · obtain rfl : i = ys.length := by omega
                have hCe : Hid (Cn w wu (w.heap.size + 1) n ((flat ((dats es).take k) ++ xs) ++ ys)) := Lib.hid (by have := hCwu.out; rwa [List.take_length] at this)
                have hle : Hid (low k ys = true) := Lib.hid (by have := hlo.out; rwa [List.take_length] at this)
                go_wp2_with fail
                go_roundg 0
                case measure => omega
                case rel => exact ⟨2, _, rfl, by decide, rfl, rfl, .inr (.inr ⟨rfl, hCe, hl1, hle⟩)⟩
          · go_wp2_with fail
            go_roundg (n - (k + 1))
            case measure => omega
            case rel => exact ⟨k + 1, _, rfl, by omega, rfl, by go_num, Lib.hid (by rw [flat_take_succ D1.out]; exact hC2.out), Lib.hid (fun j d hj hd => by
              by_cases e : j = k
              · subst e
                rw [D1.out] at hd
                cases hd
                rw [lowD_two, hl1.out, hl2.out]; rfl
              · exact hinv.out j d (by omega) hd)⟩
      · obtain rfl : k = n := by omega
        have hCf : Hid (Cn w wz (w.heap.size + 1) k (flat (dats es))) := Lib.hid (by have := hCwz.out; rwa [List.take_of_length_le (by rw [HA.out]; exact Nat.le_refl _)] at this)
        have fin : Hid (m0 = (cnt k (flat (dats es)), true)) := Lib.hid (by
          rw [← hm0.out]
          unfold useC
          rw [shape_iff.2 ⟨by rw [HA.out]; exact hn2, fun j d hd => hinv.out j d (by have h5 := (List.getElem?_eq_some_iff.1 hd).1; rw [HA.out] at h5; exact h5) hd⟩, HA.out]
          rfl)
        go_wp2_with fail
        exact bodyPost_ret (results_tmp2 rfl _ _ _) rfl (listP_cn fin.out rfl hCf.out (by omega))
end Go.Proofs.YtcogdogiceokdaaDoor
