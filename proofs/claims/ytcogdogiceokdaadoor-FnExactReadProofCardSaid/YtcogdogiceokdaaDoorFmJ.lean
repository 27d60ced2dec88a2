/- UsesOf: the reference's and the program's (printed by gen_uses.py). -/
import Derived.Test.YtcogdogiceokdaaDoorFmI
import Derived.Test.YtcogdogiceokdaaDoorFmP
namespace Go.Proofs.YtcogdogiceokdaaDoor
open Go.RowKit

theorem low_step {k i : Nat} {xs : List Int} (h : low k (xs.take i) = true) (hi : i < xs.length) (hy : 0 ≤ xs.getD i 0 ∧ xs.getD i 0 < (k : Int)) : low k (xs.take (i + 1)) = true := by
  rw [low_iff] at h ⊢
  intro x hx
  rw [List.take_succ_eq_append_getElem hi] at hx
  rcases List.mem_append.1 hx with hx | hx
  · exact h x hx
  · obtain rfl := List.mem_singleton.1 hx
    simpa [hi] using hy
theorem low_not {k i : Nat} {xs : List Int} (hi : i < xs.length) (hy : ¬ (0 ≤ xs.getD i 0 ∧ xs.getD i 0 < (k : Int))) : low k xs = false := by
  rw [← Bool.not_eq_true, low_iff]
  intro h
  exact hy (by have := h _ (List.getElem_mem hi); simpa [hi] using this)
theorem lowD_two {k : Nat} {is : List Int} {xs ys : List Int} : lowD k (is, [xs, ys]) = (low k xs && low k ys) := by simp [lowD]
theorem shape_bad {ds : List Dat} {k : Nat} {d : Dat} (h : ds[k]? = some d) (hd : lowD k d = false) : shape ds = false := by
  rw [← Bool.not_eq_true, shape_iff]
  intro hh
  rw [hh.2 k d h] at hd
  cases hd
theorem shape_long {ds : List Dat} (h : 200 < ds.length) : shape ds = false := by
  rw [← Bool.not_eq_true, shape_iff]
  intro hh
  omega
theorem flat_take_succ {ds : List Dat} {k : Nat} {is xs ys : List Int} (h : ds[k]? = some (is, [xs, ys])) : flat (ds.take (k + 1)) = flat (ds.take k) ++ xs ++ ys := by
  obtain ⟨hk, he⟩ := List.getElem?_eq_some_iff.1 h
  rw [List.take_succ_eq_append_getElem hk, flat_app, he]
  simp [flat, List.append_assoc]
theorem flat_take_le (ds : List Dat) (k : Nat) : (flat (ds.take k)).length ≤ (flat ds).length := by
  have h := flat_app (ds.take k) (ds.drop k)
  rw [List.take_append_drop] at h
  rw [h, List.length_append]
  omega
theorem flat_tots : ∀ (es : List El), (flat (dats es)).length = tots es
  | [] => rfl
  | e :: l => by
    have ih := flat_tots l
    unfold flat at ih ⊢
    unfold tots at ih ⊢
    simp only [List.map_cons, List.flatMap_cons, List.length_append, List.sum_cons, ih]
    congr 1
    simp [El.dat, El.tot, List.length_flatten, List.map_map, Function.comp_def]
theorem getD_set_of {l : List Int} {m j : Nat} {v : Int} (hm : m < l.length) : (l.set m v).getD j 0 = if j = m then v else l.getD j 0 := by
  by_cases e : j = m
  · subst e; simp [hm]
  · simp [List.getD, List.getElem?_set_ne (fun h => e h.symm), e]
/-- The table of how often each number was met. -/
structure Cn (w wz : World) (g n : Nat) (F : List Int) : Prop where
  row : wz.rowIs g 3 n (fun j => .int .i64 ((cnt n F).getD j 0))
  below : Below w.heap.size w wz
  low : w.heap.size ≤ g
theorem Cn.bump {w wz : World} {g n m : Nat} {F : List Int} (h : Cn w wz g n F) (hm : m < n) : Cn w (wz.setCell ⟨g, m, none⟩ (.int .i64 ((cnt n F).getD m 0 + 1))) g n (F ++ [(m : Int)]) := by
  refine ⟨(h.row.set m _).congr (fun j _ => ?_), h.below.setCell h.low _, h.low⟩
  rw [← cnt_set F hm, getD_set_of (by rw [cnt_len]; exact hm)]
  by_cases e : j = m
  · simp [e]
  · simp [e]
theorem Cn.next {w wz w' : World} {g n : Nat} {F : List Int} (h : Cn w wz g n F) (hb : Below wz.heap.size wz w') : Cn w w' g n F := ⟨h.row.of_block (hb.block g h.row.lt), Below.next h.below hb, h.low⟩
theorem Cn.own {w wz : World} {g n : Nat} {F : List Int} (h : Cn w wz g n F) (hn : n ≤ 1048576) : OwnI wz w.heap.size (some ⟨g, 0, none⟩) (cnt n F).length (cnt n F) := by
  refine OwnI.of_rowIs ?_ h.low (by rw [cnt_len]; unfold maxLen; omega)
  rw [cnt_len]
  exact h.row
theorem Cn.start {w wz : World} {n : Nat} (hb : Below w.heap.size w wz) : Cn w (wz.alloc (.cells (madeCells #[.int .i64 0] n) 3)) wz.heap.size n [] := by
  refine ⟨(World.rowIs_made wz (.int .i64 0) n 3).congr (fun i hi => ?_), hb.alloc hb.size _, hb.size⟩
  rw [cnt_getD _ hi]
  simp

set_option maxRecDepth 100000 in
set_option maxHeartbeats 1600000 in
theorem s_l15Shape (A : Option Addr) (n c : Nat) (es : List El) (w : World) (rd : RdE 2 2 w A n es) (hn : n ≤ 1048576) (hl : ∀ e ∈ es, ∀ r ∈ e.rs, r.xs.length ≤ 1048576) :
    Calls Tryd.prog 31 #[.agg #[.slice A n c]] w fun e w' => e = .returned (.bool (shape (dats es))) ∧ Below w.heap.size w w' := by
  have RD := Lib.hid rd
  have HL := Lib.hid hl
  have HA : Hid ((dats es).length = n) := Lib.hid (by simpa using rd.len)
  clear rd hl
  obtain ⟨z, hz⟩ : ∃ z, Hid (shape (dats es) = z) := ⟨_, Lib.hid rfl⟩
  rw [hz.out]
  obtain ⟨K, hK⟩ : ∃ K, K = if n ≤ 200 then n else 201 := ⟨_, rfl⟩
  have hK1 : K ≤ n := by rw [hK]; split <;> omega
  have hK2 : K ≤ 201 := by rw [hK]; split <;> omega
  have hK3 : Hid (n ≤ 200 → K = n) := Lib.hid (fun h => by rw [hK, if_pos h])
  have hK4 : Hid (¬ n ≤ 200 → K = 201) := Lib.hid (fun h => by rw [hK, if_neg h])
  clear hK
  go_enter Tryd.func31, Tryd.ntmps31
  go_wp2_with fail
  have B0 : Hid (Below w.heap.size w (w.alloc (.cells #[.slice A n c] 30))) := Lib.hid (by go_grown)
  go_loopg [3] K (fun mm i wx => ∃ (k : Nat) (wz : World), wz = wx ∧ k ≤ K ∧ mm = K - k ∧ i = .int .i64 k ∧ wz.cell? ⟨w.heap.size, 0, none⟩ = some (.slice A n c) ∧ Hid (Below w.heap.size w wz) ∧ Hid (∀ j d, j < k → (dats es)[j]? = some d → lowD j d = true))
  case atStart => exact ⟨0, _, rfl, Nat.zero_le _, rfl, rfl, by simp [go_sem], B0, Lib.hid (fun j d hj => by omega)⟩
  case round =>
    obtain ⟨k, wz, rfl, hk, rfl, rfl, hcA, hbz, hinv⟩ := hrel
    clear B0
    by_cases hlt : k < K
    · have hltI : (k : Int) < (n : Int) := by omega
      have hltJ : (k : Int) ≤ 200 := by omega
      obtain ⟨b, off, i1, i2, A1, c1, xs, A2, c2, ys, rfl, _, he, r1, r2, q0, q1, hc0, hc1⟩ := (RD.out.below hbz.out).claim (show k < n by omega)
      have hm := HL.out _ (List.mem_of_getElem? he)
      have hx1 : xs.length ≤ 1048576 := hm ⟨A1, c1, xs⟩ (by simp)
      have hx2 : ys.length ≤ 1048576 := hm ⟨A2, c2, ys⟩ (by simp)
      have D1 := Lib.hid (dat_claim he)
      have R1 := Lib.hid r1
      have R2 := Lib.hid r2
      clear he hm r1 r2 q0 q1
      go_wp2_with fail
      go_loopg [4] xs.length (fun mm i wx => ∃ (i' : Nat) (wv : World), wv = wx ∧ wv = wz ∧ i' ≤ xs.length ∧ mm = xs.length - i' ∧ i = .int .i64 i' ∧ Hid (low k (xs.take i') = true))
      case atStart => exact ⟨0, _, rfl, rfl, Nat.zero_le _, rfl, rfl, Lib.hid rfl⟩
      case round =>
        obtain ⟨i, wv, rfl, hwv, hi, rfl, rfl, hlo⟩ := hrel
        subst hwv
        by_cases hil : i < xs.length
        · have hiI : (i : Int) < (xs.length : Int) := by omega
          obtain ⟨b3, off3, rfl, _, hcy⟩ := R1.out.at_ hil
          have hok : Hid (0 ≤ xs.getD i 0 ∧ xs.getD i 0 < (k : Int) → low k (xs.take (i + 1)) = true) := Lib.hid (fun h => low_step hlo.out hil h)
          have hnk : Hid (¬ (0 ≤ xs.getD i 0 ∧ xs.getD i 0 < (k : Int)) → z = false) := Lib.hid (fun h => by
            rw [← hz.out]
            exact shape_bad D1.out (by rw [lowD_two, low_not hil h]; rfl))
          generalize xs.getD i 0 = y at *
          cases hb : inB y 0 ((k : Int) - 1)
          · have HI := Lib.hid (c_l1In y 0 ((k : Int) - 1) wv)
            rw [hb] at HI
            have hzf := hnk.out (by have := inB_false.1 hb; omega)
            subst hzf
            clear hok hnk hb
            go_wp2_with (go_at_call 32; refine HI.out.mono ?_; rintro e w' ⟨rfl, rfl⟩)
            go_ret
            exact ⟨rfl, hbz.out⟩
          · have HI := Lib.hid (c_l1In y 0 ((k : Int) - 1) wv)
            rw [hb] at HI
            have hlo2 := Lib.hid (hok.out (by have := inB_true.1 hb; omega))
            clear hok hnk hb hlo
            go_wp2_with (go_at_call 32; refine HI.out.mono ?_; rintro e w' ⟨rfl, rfl⟩)
            go_roundg (xs.length - (i + 1))
            case measure => omega
            case rel => exact ⟨i + 1, _, rfl, rfl, by omega, rfl, by go_num, hlo2⟩
        · obtain rfl : i = xs.length := by omega
          have lo1 : Hid (low k xs = true) := Lib.hid (by have := hlo.out; rwa [List.take_length] at this)
          clear hlo
          go_wp2_with fail
          go_loopg [5] ys.length (fun mm i wx => ∃ (i' : Nat) (wu : World), wu = wx ∧ wu = wv ∧ i' ≤ ys.length ∧ mm = ys.length - i' ∧ i = .int .i64 i' ∧ Hid (low k (ys.take i') = true))
          case atStart => exact ⟨0, _, rfl, rfl, Nat.zero_le _, rfl, rfl, Lib.hid rfl⟩
          case round =>
            obtain ⟨i, wu, rfl, hwv, hi, rfl, rfl, hlo⟩ := hrel
            subst hwv
            by_cases hil : i < ys.length
            · have hiI : (i : Int) < (ys.length : Int) := by omega
              obtain ⟨b3, off3, rfl, _, hcy⟩ := R2.out.at_ hil
              have hok : Hid (0 ≤ ys.getD i 0 ∧ ys.getD i 0 < (k : Int) → low k (ys.take (i + 1)) = true) := Lib.hid (fun h => low_step hlo.out hil h)
              have hnk : Hid (¬ (0 ≤ ys.getD i 0 ∧ ys.getD i 0 < (k : Int)) → z = false) := Lib.hid (fun h => by
                rw [← hz.out]
                exact shape_bad D1.out (by rw [lowD_two, low_not hil h]; simp))
              generalize ys.getD i 0 = y at *
              cases hb : inB y 0 ((k : Int) - 1)
              · have HI := Lib.hid (c_l1In y 0 ((k : Int) - 1) wu)
                rw [hb] at HI
                have hzf := hnk.out (by have := inB_false.1 hb; omega)
                subst hzf
                clear hok hnk hb
                go_wp2_with (go_at_call 32; refine HI.out.mono ?_; rintro e w' ⟨rfl, rfl⟩)
                go_ret
                exact ⟨rfl, hbz.out⟩
              · have HI := Lib.hid (c_l1In y 0 ((k : Int) - 1) wu)
                rw [hb] at HI
                have hlo2 := Lib.hid (hok.out (by have := inB_true.1 hb; omega))
                clear hok hnk hb hlo
                go_wp2_with (go_at_call 32; refine HI.out.mono ?_; rintro e w' ⟨rfl, rfl⟩)
                go_roundg (ys.length - (i + 1))
                case measure => omega
                case rel => exact ⟨i + 1, _, rfl, rfl, by omega, rfl, by go_num, hlo2⟩
            · obtain rfl : i = ys.length := by omega
              have lo2 : Hid (low k ys = true) := Lib.hid (by have := hlo.out; rwa [List.take_length] at this)
              clear hlo
              go_wp2_with fail
              go_roundg (K - (k + 1))
              case measure => omega
              case rel => exact ⟨k + 1, _, rfl, by omega, rfl, by go_num, hcA, hbz, Lib.hid (fun j d hj hd => by
                by_cases e : j = k
                · subst e
                  rw [D1.out] at hd
                  cases hd
                  rw [lowD_two, lo1.out, lo2.out]; rfl
                · exact hinv.out j d (by omega) hd)⟩
    · obtain rfl : k = K := by omega
      by_cases h2 : n ≤ 200
      · have hkn := hK3.out h2
        have h3 : (n : Int) ≤ 200 := by omega
        have hzt : z = true := by
          rw [← hz.out, shape_iff]
          refine ⟨by rw [HA.out]; exact h2, fun j d hd => hinv.out j d ?_ hd⟩
          have h5 := (List.getElem?_eq_some_iff.1 hd).1
          rw [HA.out] at h5
          omega
        subst hzt
        have h4 : ¬ (k : Int) < (n : Int) := by omega
        clear hK3 hK4 hkn hz hinv
        go_wp2_with fail
        go_ret
        exact ⟨rfl, hbz.out⟩
      · have hkn := hK4.out h2
        have hzf : z = false := by rw [← hz.out]; exact shape_long (by rw [HA.out]; omega)
        subst hzf
        subst hkn
        have h3 : ¬ (n : Int) ≤ 200 := by omega
        clear hK3 hK4 hz hinv
        by_cases h5 : (201 : Int) < (n : Int)
        · go_wp2_with fail
          go_ret
          exact ⟨rfl, hbz.out⟩
        · go_wp2_with fail
          go_ret
          exact ⟨rfl, hbz.out⟩
end Go.Proofs.YtcogdogiceokdaaDoor
