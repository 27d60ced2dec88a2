/- GoodWall, the program's. -/
import Derived.Test.YtcogdogiceokdaaFmQ
namespace Go.Proofs.Ytcogdogiceokdaa
open Go.RowKit

theorem c_inParts (t p : Int) (w : World) (h : gd t p = true) :
    Calls Try.prog 28 #[dv t p] w fun e w' => e = .returned (.int .i64 (sc 20 t p)) ∧ Below w.heap.size w w' := by
  have hr := gd_rng h
  obtain ⟨h1, h2, h3, h4⟩ := hr
  have hw := wrap_sc (n := 20) (t := t) (p := p) (by decide) (by omega) (by omega) h3
  have e20 : ((20 : Nat) : Int) = 20 := rfl
  rw [e20] at hw
  have HW := Lib.hid hw
  have hn : (0 : Int) ≤ 20 - p := by omega
  clear hw h
  go_enter Try.func28, Try.ntmps28
  go_wp2_with fail
  go_ret
  exact ⟨ret_int (by first | exact HW.out | (rw [← HW.out]; rfl)), by go_grown⟩
set_option maxRecDepth 100000 in
set_option maxHeartbeats 3200000 in
theorem c_GoodWall (A : Option Addr) (n c : Nat) (es : List El) (w : World) (rd : RdE 4 0 w A n es) (hn : n ≤ 1048576) :
    Calls Try.prog 9 #[.slice A n c] w fun e w' => e = .returned (.bool (wallC (dats es))) ∧ Below w.heap.size w w' := by
  have RD := Lib.hid rd
  have HA : Hid ((dats es).length = n) := Lib.hid (by simpa using rd.len)
  clear rd
  obtain ⟨z, hz⟩ : ∃ z, Hid (wallC (dats es) = z) := ⟨_, Lib.hid rfl⟩
  rw [hz.out]
  by_cases h1 : (n : Int) < 1
  · have hzf : z = false := by rw [← hz.out]; exact wall_len (by rw [HA.out]; omega)
    subst hzf
    go_enter Try.func9, Try.ntmps9
    go_wp2_with fail
    go_ret
    exact ⟨rfl, Below.refl _ _⟩
  by_cases h2 : (40 : Int) < (n : Int)
  · have hzf : z = false := by rw [← hz.out]; exact wall_len (by rw [HA.out]; omega)
    subst hzf
    go_enter Try.func9, Try.ntmps9
    go_wp2_with fail
    go_ret
    exact ⟨rfl, Below.refl _ _⟩
  obtain ⟨b, off, x1, x2, x3, x4, rfl, _, he0, q0, q1, q2, q3⟩ := RD.out.point (show 0 < n by omega)
  rw [Nat.zero_mul, Nat.add_zero] at q0 q1 q2 q3
  have D0 := Lib.hid (dat_point he0)
  have h0n : (0 : Int) < (n : Int) := by omega
  clear he0
  by_cases hx1 : x1 = 0
  rotate_left
  · have hzf : z = false := by rw [← hz.out]; exact wall_orig D0.out (by simp [orig, hx1])
    subst hzf
    have hb : (x1 == 0) = false := by simpa using hx1
    clear D0
    go_enter Try.func9, Try.ntmps9
    go_wp2_with fail
    go_ret
    exact ⟨rfl, Below.refl _ _⟩
  subst hx1
  by_cases hx2 : x2 = 0
  rotate_left
  · have hzf : z = false := by rw [← hz.out]; exact wall_orig D0.out (by simp [orig, hx2])
    subst hzf
    have hb : (x2 == 0) = false := by simpa using hx2
    clear D0
    go_enter Try.func9, Try.ntmps9
    go_wp2_with fail
    go_ret
    exact ⟨rfl, Below.refl _ _⟩
  subst hx2
  go_enter Try.func9, Try.ntmps9
  go_wp2_with fail
  go_loopg [27] n (fun mm i wx => ∃ (k : Nat) (wz : World), wz = wx ∧ k ≤ n ∧ mm = n - k ∧ i = .int .i64 k ∧ Hid (Below w.heap.size w wz) ∧ Hid (∀ j d, j < k → (dats es)[j]? = some d → gpD d = true))
  case atStart => exact ⟨0, _, rfl, Nat.zero_le _, rfl, rfl, Lib.hid (Below.refl _ _), Lib.hid (fun j d hj => by omega)⟩
  case round =>
    obtain ⟨k, wz, rfl, hk, rfl, rfl, hbz, hinv⟩ := hrel
    by_cases hlt : k < n
    · have hltI : (k : Int) < (n : Int) := by omega
      obtain ⟨b', off', y1, y2, y3, y4, e1, _, he, p0, p1, p2, p3⟩ := (RD.out.below hbz.out).point hlt
      injection e1 with e1
      injection e1 with e1 e2
      subst e1 e2
      have D1 := Lib.hid (dat_point he)
      clear he q0 q1 q2 q3
      cases hg1 : gd y1 y2
      · have hzf : z = false := by rw [← hz.out]; exact wall_gp D1.out (by unfold gpD; simp [hg1])
        subst hzf
        have HG := Lib.hid (fun W => c_GoodDyadic y1 y2 W)
        rw [hg1] at HG
        clear hg1 D1
        go_wp2_with fail
        refine (HG.out _).mono ?_
        rintro e w1 ⟨rfl, b1⟩
        have B1 : Hid (Below w.heap.size w w1) := Lib.hid (Below.next hbz.out (Below.next (show Below wz.heap.size wz _ by go_grown) b1))
        clear b1
        go_wp2_with fail
        go_ret
        exact ⟨rfl, B1.out⟩
      · have HG := Lib.hid (fun W => c_GoodDyadic y1 y2 W)
        rw [hg1] at HG
        have HG2 := Lib.hid (fun W => c_GoodDyadic y3 y4 W)
        have hgz : Hid (gd y3 y4 = false → z = false) := Lib.hid (fun h => by rw [← hz.out]; exact wall_gp D1.out (by unfold gpD; simp [h]))
        have hgt : Hid (gd y3 y4 = true → gpD ([y1, y2, y3, y4], []) = true) := Lib.hid (fun h => by unfold gpD; simp [h, hg1])
        obtain ⟨gg, hgg⟩ : ∃ gg, gd y3 y4 = gg := ⟨_, rfl⟩
        rw [hgg] at HG2 hgz hgt
        clear hg1 hgg
        go_wp2_with fail
        refine (HG.out _).mono ?_
        rintro e w1 ⟨rfl, b1⟩
        have k2 : w1.cell? ⟨wz.heap.size, 2, none⟩ = some (.int .i64 y3) := bkeep b1 _ _ (by simp [go_sem])
        have k3 : w1.cell? ⟨wz.heap.size, 3, none⟩ = some (.int .i64 y4) := bkeep b1 _ _ (by simp [go_sem])
        have B1 : Hid (Below w.heap.size w w1) := Lib.hid (Below.next hbz.out (Below.next (show Below wz.heap.size wz _ by go_grown) b1))
        clear b1 HG
        cases gg
        · have hzf := hgz.out rfl
          subst hzf
          clear hgz hgt
          go_wp2_with fail
          refine (HG2.out _).mono ?_
          rintro e w2 ⟨rfl, b2⟩
          have B2 := Lib.hid (Below.next B1.out b2)
          clear b2
          go_wp2_with fail
          go_ret
          exact ⟨rfl, B2.out⟩
        · have hgp := Lib.hid (hgt.out rfl)
          clear hgz hgt
          go_wp2_with fail
          refine (HG2.out _).mono ?_
          rintro e w2 ⟨rfl, b2⟩
          have B2 := Lib.hid (Below.next B1.out b2)
          clear b2 HG2
          go_wp2_with fail
          go_roundg (n - (k + 1))
          case measure => omega
          case rel => exact ⟨k + 1, _, rfl, by omega, rfl, by go_num, B2, Lib.hid (fun j d hj hd => by
            by_cases e : j = k
            · subst e
              rw [D1.out] at hd
              cases hd
              exact hgp.out
            · exact hinv.out j d (by omega) hd)⟩
    · obtain rfl : k = n := by omega
      have hgood : Hid (∀ j d, (dats es)[j]? = some d → gpD d = true) := Lib.hid (fun j d hd => hinv.out j d (by have h5 := (List.getElem?_eq_some_iff.1 hd).1; rw [HA.out] at h5; exact h5) hd)
      have hzp : Hid (z = prg 2 ((dats es).map ptD)) := Lib.hid (by
        rw [← hz.out]
        exact wall_all (by rw [HA.out]; omega) (by rw [HA.out]; omega) (fun d hd => by rw [D0.out] at hd; cases hd; rfl) hgood.out)
      clear hinv q0 q1 q2 q3
      go_wp2_with fail
      go_loopg [5, 6] k (fun mm v i wx => ∃ (j : Nat) (last : Int) (wv : World), wv = wx ∧ j < k ∧ mm = k - j ∧ i = .int .i64 j ∧ v = .int .i64 last ∧ Hid (Below w.heap.size w wv) ∧ Hid (z = prg last (((dats es).map ptD).drop j)))
      case atStart => exact ⟨0, 2, _, rfl, by omega, rfl, rfl, rfl, hbz, Lib.hid (by rw [List.drop_zero]; exact hzp.out)⟩
      case round =>
        obtain ⟨j, last, wv, rfl, hj, rfl, rfl, rfl, hbv, hzl⟩ := hrel
        by_cases hlt2 : j + 1 < k
        · have hltJ : (j : Int) + 1 < (k : Int) := by omega
          have hltJ0 : (j : Int) < (k : Int) := by omega
          have hj0 : (0 : Int) ≤ (j : Int) + 1 := by omega
          obtain ⟨b', off', a1, a2, a3, a4, e1, _, he1, p0, p1, p2, p3⟩ := (RD.out.below hbv.out).point (show j < k by omega)
          injection e1 with e1
          injection e1 with e1 e2
          subst e1 e2
          obtain ⟨j1, hj1⟩ : ∃ j1, j1 = j + 1 := ⟨_, rfl⟩
          have HJ := Lib.hid hj1
          have hw1 : IntKind.i64.wrap ((j : Int) + 1) = (j1 : Int) := by rw [IntWalk.i64_in _ ⟨by omega, by omega⟩]; omega
          have hj1a : (0 : Int) ≤ (j1 : Int) := by omega
          have hj1b : (j1 : Int) < (k : Int) := by omega
          obtain ⟨b', off', b1, b2, b3, b4, e1, _, he2, r0, r1, r2, r3⟩ := (RD.out.below hbv.out).point (show j1 < k by omega)
          clear hj1
          injection e1 with e1
          injection e1 with e1 e2
          subst e1 e2
          have d1 := dat_point he1
          have d2 := dat_point he2
          have g1 := hgood.out j _ d1
          have g2 := hgood.out j1 _ d2
          unfold gpD at g1 g2
          simp only [List.getD, List.getElem?_cons_zero, List.getElem?_cons_succ, Option.getD_some, Bool.and_eq_true] at g1 g2
          obtain ⟨ga, gv⟩ := g1
          obtain ⟨gb, gu⟩ := g2
          have hP1 : ((dats es).map ptD)[j]? = some (sc 16 a1 a2, sc 16 a3 a4) := by rw [List.getElem?_map, d1]; rfl
          have hP2 : ((dats es).map ptD)[j + 1]? = some (sc 16 b1 b2, sc 16 b3 b4) := by rw [← HJ.out, List.getElem?_map, d2]; rfl
          have hps : Hid (z = (decide (sc 16 a1 a2 < sc 16 b1 b2) && (slp (sc 16 a1 a2, sc 16 a3 a4) (sc 16 b1 b2, sc 16 b3 b4) != 2 && (slp (sc 16 a1 a2, sc 16 a3 a4) (sc 16 b1 b2, sc 16 b3 b4) != last && prg (slp (sc 16 a1 a2, sc 16 a3 a4) (sc 16 b1 b2, sc 16 b3 b4)) (((dats es).map ptD).drop (j + 1)))))) := Lib.hid (by rw [hzl.out, prg_step last hP1 hP2])
          have HX : Hid (IntKind.i64.wrap (sc 20 b1 b2 - sc 20 a1 a2) = (sc 16 b1 b2 - sc 16 a1 a2) * 16) := Lib.hid (by
            rw [sc20 gb, sc20 ga]
            have h5 := sc16_bd ga
            have h6 := sc16_bd gb
            rw [IntWalk.i64_in _ ⟨by omega, by omega⟩]
            omega)
          have HY : Hid (IntKind.i64.wrap (sc 20 b3 b4 - sc 20 a3 a4) = (sc 16 b3 b4 - sc 16 a3 a4) * 16) := Lib.hid (by
            rw [sc20 gu, sc20 gv]
            have h5 := sc16_bd gv
            have h6 := sc16_bd gu
            rw [IntWalk.i64_in _ ⟨by omega, by omega⟩]
            omega)
          have hxb := Lib.hid (sc16_bd ga)
          have hxb2 := Lib.hid (sc16_bd gb)
          clear he1 he2 d1 d2 hP1 hP2
          go_upto_region 13 with fail
          go_cut [7, 8] (fun v7 v8 wx => ∃ wy, wy = wx ∧ v7 = .int .i64 ((sc 16 b1 b2 - sc 16 a1 a2) * 16) ∧ v8 = .int .i64 ((sc 16 b3 b4 - sc 16 a3 a4) * 16) ∧ Hid (Below w.heap.size w wy))
          case first =>
            go_region_held3 (fun w' => w'.cell? ⟨b, off + j * 4, none⟩ = some (.int .i64 a1) ∧ w'.cell? ⟨b, off + j * 4 + 1, none⟩ = some (.int .i64 a2) ∧ w'.cell? ⟨b, off + j * 4 + 2, none⟩ = some (.int .i64 a3) ∧ w'.cell? ⟨b, off + j * 4 + 3, none⟩ = some (.int .i64 a4) ∧ w'.cell? ⟨b, off + j1 * 4, none⟩ = some (.int .i64 b1) ∧ w'.cell? ⟨b, off + j1 * 4 + 1, none⟩ = some (.int .i64 b2) ∧ w'.cell? ⟨b, off + j1 * 4 + 2, none⟩ = some (.int .i64 b3) ∧ w'.cell? ⟨b, off + j1 * 4 + 3, none⟩ = some (.int .i64 b4) ∧ Below w.heap.size w w')
              (first | (refine ⟨?_, ?_, ?_, ?_, ?_, ?_, ?_, ?_, ?_⟩ <;> first | go_keep | exact hbv.out.drew | exact Below.next (And.right (And.right (And.right (And.right (And.right (And.right (And.right (And.right (by assumption))))))))) (by assumption)))
              (first | (go_at_call 28; refine (c_inParts _ _ _ (by assumption)).mono ?_; rintro e w' ⟨rfl, b⟩; have hk := bkeep b))
            all_goals
              go_wp2_with fail
              go_meet
              case rel => exact ⟨_, rfl, by rw [HX.out], by rw [HY.out], Lib.hid (And.right (And.right (And.right (And.right (And.right (And.right (And.right (And.right (by assumption)))))))))⟩
          case rest =>
            obtain ⟨wy, rfl, rfl, rfl, hby⟩ := hcut
            clear p0 p1 p2 p3 r0 r1 r2 r3 HX HY hbv ga gv gb gu
            by_cases hlt3 : sc 16 a1 a2 < sc 16 b1 b2
            rotate_left
            · have hzf : z = false := by rw [hps.out, decide_eq_false hlt3]; rfl
              subst hzf
              have hU : (sc 16 b1 b2 - sc 16 a1 a2) * 16 ≤ 0 := by omega
              generalize (sc 16 b1 b2 - sc 16 a1 a2) * 16 = U at *
              generalize (sc 16 b3 b4 - sc 16 a3 a4) * 16 = V at *
              clear hps hzl
              go_wp2_with fail
              go_ret
              exact ⟨rfl, hby.out⟩
            have hU : 0 < (sc 16 b1 b2 - sc 16 a1 a2) * 16 := by omega
            have hUb : (sc 16 b1 b2 - sc 16 a1 a2) * 16 ≤ 4000000000000 := by have := hxb.out; have := hxb2.out; omega
            rcases (show sc 16 b3 b4 - sc 16 a3 a4 = 0 ∨ sc 16 b3 b4 - sc 16 a3 a4 = sc 16 b1 b2 - sc 16 a1 a2 ∨ sc 16 b3 b4 - sc 16 a3 a4 = -(sc 16 b1 b2 - sc 16 a1 a2) ∨ (sc 16 b3 b4 - sc 16 a3 a4 ≠ 0 ∧ sc 16 b3 b4 - sc 16 a3 a4 ≠ sc 16 b1 b2 - sc 16 a1 a2 ∧ sc 16 b3 b4 - sc 16 a3 a4 ≠ -(sc 16 b1 b2 - sc 16 a1 a2)) by omega) with hy | hy | hy | hy
            · have hsv : slp (sc 16 a1 a2, sc 16 a3 a4) (sc 16 b1 b2, sc 16 b3 b4) = 0 := by unfold slp; simp only; rw [if_pos hy]
              rw [hsv] at hps
              by_cases hl : last = 0
              · have hzf : z = false := by rw [hps.out]; subst hl; simp
                subst hzf
                subst hl
                rw [hy, Int.zero_mul]
                generalize (sc 16 b1 b2 - sc 16 a1 a2) * 16 = U at *
                have hq : (0 : Int).tdiv U = 0 := Int.zero_tdiv _
                have hU1 : ¬ U ≤ 0 := by omega
                have hU2 : ¬ U = 0 := by omega
                clear hps hsv hzl
                go_wp2_with fail
                go_ret
                exact ⟨rfl, hby.out⟩
              · have hl2 : ((0 : Int) == last) = false := by simpa using fun h => hl h.symm
                have hl3 : ((0 : Int) != last) = true := by simpa using fun h => hl h.symm
                have hz2 : Hid (z = prg (0) (((dats es).map ptD).drop (j + 1))) := Lib.hid (by rw [hps.out, decide_eq_true hlt3, hl3]; simp)
                rw [hy, Int.zero_mul]
                generalize (sc 16 b1 b2 - sc 16 a1 a2) * 16 = U at *
                have hq : (0 : Int).tdiv U = 0 := Int.zero_tdiv _
                have hU1 : ¬ U ≤ 0 := by omega
                have hU2 : ¬ U = 0 := by omega
                clear hps hsv hzl hl3
                go_wp2_with fail
                go_roundg (k - (j + 1))
                case measure => omega
                case rel => exact ⟨j + 1, _, _, rfl, by omega, rfl, by have hJ := HJ.out; go_num, rfl, hby, hz2⟩
            · have hsv : slp (sc 16 a1 a2, sc 16 a3 a4) (sc 16 b1 b2, sc 16 b3 b4) = 1 := by unfold slp; simp only; rw [if_neg (by omega), if_pos hy]
              rw [hsv] at hps
              by_cases hl : last = 1
              · have hzf : z = false := by rw [hps.out]; subst hl; simp
                subst hzf
                subst hl
                rw [hy]
                generalize (sc 16 b1 b2 - sc 16 a1 a2) * 16 = U at *
                have hq : U.tdiv U = 1 := Int.tdiv_self (by omega)
                have hU1 : ¬ U ≤ 0 := by omega
                have hU2 : ¬ U = 0 := by omega
                clear hps hsv hzl
                go_wp2_with fail
                go_ret
                exact ⟨rfl, hby.out⟩
              · have hl2 : ((1 : Int) == last) = false := by simpa using fun h => hl h.symm
                have hl3 : ((1 : Int) != last) = true := by simpa using fun h => hl h.symm
                have hz2 : Hid (z = prg (1) (((dats es).map ptD).drop (j + 1))) := Lib.hid (by rw [hps.out, decide_eq_true hlt3, hl3]; simp)
                rw [hy]
                generalize (sc 16 b1 b2 - sc 16 a1 a2) * 16 = U at *
                have hq : U.tdiv U = 1 := Int.tdiv_self (by omega)
                have hU1 : ¬ U ≤ 0 := by omega
                have hU2 : ¬ U = 0 := by omega
                clear hps hsv hzl hl3
                go_wp2_with fail
                go_roundg (k - (j + 1))
                case measure => omega
                case rel => exact ⟨j + 1, _, _, rfl, by omega, rfl, by have hJ := HJ.out; go_num, rfl, hby, hz2⟩
            · have hsv : slp (sc 16 a1 a2, sc 16 a3 a4) (sc 16 b1 b2, sc 16 b3 b4) = (-1) := by unfold slp; simp only; rw [if_neg (by omega), if_neg (by omega), if_pos hy]
              rw [hsv] at hps
              by_cases hl : last = (-1)
              · have hzf : z = false := by rw [hps.out]; subst hl; simp
                subst hzf
                subst hl
                rw [hy, Int.neg_mul]
                generalize (sc 16 b1 b2 - sc 16 a1 a2) * 16 = U at *
                have hq : (-U).tdiv U = -1 := by rw [Int.neg_tdiv, Int.tdiv_self (by omega)]
                have hU1 : ¬ U ≤ 0 := by omega
                have hU2 : ¬ U = 0 := by omega
                have hU3 : ¬ -U = U := by omega
                clear hps hsv hzl
                go_wp2_with fail
                go_ret
                exact ⟨rfl, hby.out⟩
              · have hl2 : (((-1) : Int) == last) = false := by simpa using fun h => hl h.symm
                have hl3 : (((-1) : Int) != last) = true := by simpa using fun h => hl h.symm
                have hz2 : Hid (z = prg ((-1)) (((dats es).map ptD).drop (j + 1))) := Lib.hid (by rw [hps.out, decide_eq_true hlt3, hl3]; simp)
                rw [hy, Int.neg_mul]
                generalize (sc 16 b1 b2 - sc 16 a1 a2) * 16 = U at *
                have hq : (-U).tdiv U = -1 := by rw [Int.neg_tdiv, Int.tdiv_self (by omega)]
                have hU1 : ¬ U ≤ 0 := by omega
                have hU2 : ¬ U = 0 := by omega
                have hU3 : ¬ -U = U := by omega
                clear hps hsv hzl hl3
                go_wp2_with fail
                go_roundg (k - (j + 1))
                case measure => omega
                case rel => exact ⟨j + 1, _, _, rfl, by omega, rfl, by have hJ := HJ.out; go_num, rfl, hby, hz2⟩
            · have hsv : slp (sc 16 a1 a2, sc 16 a3 a4) (sc 16 b1 b2, sc 16 b3 b4) = 2 := slp_two.2 hy
              have hzf : z = false := by rw [hps.out, hsv]; simp
              subst hzf
              have hV0 : ¬ (sc 16 b3 b4 - sc 16 a3 a4) * 16 = 0 := by omega
              have hV1 : ¬ (sc 16 b3 b4 - sc 16 a3 a4) * 16 = (sc 16 b1 b2 - sc 16 a1 a2) * 16 := by omega
              have hV2 : ¬ (sc 16 b3 b4 - sc 16 a3 a4) * 16 = -((sc 16 b1 b2 - sc 16 a1 a2) * 16) := by omega
              have hU1 : ¬ (sc 16 b1 b2 - sc 16 a1 a2) * 16 ≤ 0 := by omega
              clear hps hsv hzl hy
              generalize (sc 16 b1 b2 - sc 16 a1 a2) * 16 = U at *
              generalize (sc 16 b3 b4 - sc 16 a3 a4) * 16 = V at *
              go_wp2_with fail
              go_ret
              exact ⟨rfl, hby.out⟩
        · have hjk : k = j + 1 := by omega
          have hzf : z = (last != 0) := by
            rw [hzl.out]
            have h5 : ∃ a, ((dats es).map ptD)[j]? = some a := ⟨_, List.getElem?_eq_getElem (by rw [List.length_map, HA.out]; omega)⟩
            obtain ⟨a, ha⟩ := h5
            exact prg_last last ha (by rw [List.length_map, HA.out]; omega)
          have hnl : ¬ (j : Int) + 1 < (k : Int) := by omega
          clear hzl hzp hgood
          subst hzf
          go_wp2_with fail
          go_ret
          exact ⟨rfl, hbv.out⟩
end Go.Proofs.Ytcogdogiceokdaa
