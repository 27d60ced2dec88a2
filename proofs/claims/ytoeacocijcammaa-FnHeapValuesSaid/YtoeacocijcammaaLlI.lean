/- The program's moves of a heap: heapMoves. -/
import Derived.Test.YtoeacocijcammaaLlH
namespace Go.Proofs.Ytoeacocijcammaa
open Go.RowKit

/-- A slice of rows of the call's own, of which the numbers are known. -/
def MvI (w wx : World) (v : Value) (L : List (List Int)) : Prop :=
  ∃ g c rs, v = .slice (some ⟨g, 0, none⟩) rs.length c ∧ OwnL wx w.heap.size (some ⟨g, 0, none⟩) c rs ∧ nums rs = L ∧ Below w.heap.size w wx ∧ ∀ r ∈ rs, r.A ≠ none
theorem MvI.start (w : World) : MvI w (w.alloc (.cells #[] 22)) (.slice (some ⟨w.heap.size, 0, none⟩) 0 0) [] :=
  ⟨w.heap.size, 0, [], rfl, OwnL.lit0 w _ (Nat.le_refl _), rfl, (Below.refl _ _).alloc (Nat.le_refl _) _, fun r hr => by simp at hr⟩
/-- A new row is appended. -/
theorem MvI.add {w wx w' : World} {g c g' cap : Nat} {rs : List Row} {L : List (List Int)} (ho : OwnL wx w.heap.size (some ⟨g, 0, none⟩) c rs) (hL : nums rs = L) (hb : Below w.heap.size w wx) (hA : ∀ r ∈ rs, r.A ≠ none) (ms : List Int) (hm : ms.length ≤ 1000)
    (h1 : w'.ownsRow w.heap.size 22 1 (.slice (some ⟨g', 0, none⟩) (rs.length + 1) cap) (rs.length + 1) (rs.map Row.val ++ [.slice (some ⟨wx.heap.size, 0, none⟩) ms.length ms.length]))
    (h2 : (wx.alloc (.cells (ms.map (Value.int .i64)).toArray 3)).grownBy w' (some g)) (h3 : some g = some g' ∨ (wx.alloc (.cells (ms.map (Value.int .i64)).toArray 3)).heap.size ≤ g') :
    MvI w w' (.slice (some ⟨g', 0, none⟩) (rs.length + 1) cap) (L ++ [ms]) := by
  have hlt := (ho.outer.lt g rfl).2
  have hB := hb.size
  have ho' := ho.below ((Below.refl _ _).alloc (Nat.le_refl _) (.cells (ms.map (Value.int .i64)).toArray 3))
  have hown : (wx.alloc (.cells (ms.map (Value.int .i64)).toArray 3)).ownsRow w.heap.size 3 1 (.slice (some ⟨wx.heap.size, 0, none⟩) ms.length ms.length) ms.length (ms.map (Value.int .i64)) := by
    have := own_block (w := wx.alloc (.cells (ms.map (Value.int .i64)).toArray 3)) (base := w.heap.size) (n := ms.length) (heap_alloc_new wx _) hB (by simp) hm
    simpa using this
  have hadd := OwnL.add (r := ⟨some ⟨wx.heap.size, 0, none⟩, ms.length, ms⟩) ho' h1 h2 h3 hown (.inr (fun e => by
    have : wx.heap.size = g := Option.some.inj e
    omega)) (fun s hs => by
      cases e : s.blk with
      | none => exact .inl rfl
      | some k =>
        refine .inr (fun e2 => ?_)
        have e3 : k = wx.heap.size := Option.some.inj e2
        have := (ho.rows s hs).lt k e
        omega)
  refine ⟨g', cap, rs ++ [⟨some ⟨wx.heap.size, 0, none⟩, ms.length, ms⟩], by simp, hadd, by simp [hL], ?_, fun r hr => ?_⟩
  rotate_left
  · rcases List.mem_append.1 hr with h | h
    · exact hA r h
    · obtain rfl := List.mem_singleton.1 h; simp
  refine Below.grown (hb.alloc hB _) h2 (by simp; omega) (fun j hj => ?_)
  have := Option.some.inj hj
  have := (ho.outer.lt g rfl).1
  omega
theorem mv1_len (d r : Nat) : (mv1 d r).length ≤ 1 := by unfold mv1; split <;> simp
theorem mv2_len (d r : Nat) : (mv2 d r).length ≤ 1 := by unfold mv2; split <;> simp
theorem MvI.open {w wx : World} {v : Value} {L : List (List Int)} (h : MvI w wx v L) : ∃ g c rs, v = .slice (some ⟨g, 0, none⟩) rs.length c ∧ Hid (OwnL wx w.heap.size (some ⟨g, 0, none⟩) c rs) ∧ Hid (nums rs = L) ∧ Hid (Below w.heap.size w wx) ∧ rs.length ≤ L.length ∧ w.heap.size ≤ wx.heap.size ∧ Hid (∀ r ∈ rs, r.A ≠ none) := by
  obtain ⟨g, c, rs, e, ho, hL, hb, hA⟩ := h
  exact ⟨g, c, rs, e, Lib.hid ho, Lib.hid hL, Lib.hid hb, by rw [← hL]; simp, hb.size, Lib.hid hA⟩
theorem mv_step (xs : List Int) (h k d r : Nat) (hd : xs.getD k 0 = (d : Int)) (hr : h - (k + 1) = r) : mvTo xs h (k + 1) = mvTo xs h k ++ mv1 d r ++ mv2 d r ++ mv4 d r := by
  rw [mvTo, hd, hr]; simp [mvK]
set_option maxRecDepth 100000 in
set_option maxHeartbeats 3200000 in
theorem c_heapMoves (A : Option Addr) (c : Nat) (xs : List Int) (hp : Nat) (w : World) (rd : RdI w A xs.length xs) (hg : goodC xs = true) (hh : hp ≤ 300) :
    Calls Try.prog 42 #[.slice A xs.length c, .int .i64 hp] w fun e w' => ∃ v, e = .returned v ∧ MvI w w' v (moves xs hp) := by
  have hx6 : xs.length ≤ 6 := (goodC_iff.1 hg).2.1
  go_enter Try.func42, Try.ntmps42
  go_wp2_with fail
  go_loopg [5, 13] xs.length (fun m o i wx => ∃ k : Nat, k ≤ xs.length ∧ k ≤ hp ∧ m = xs.length - k ∧ i = .int .i64 k ∧ MvI w wx o (mvTo xs hp k))
  case atStart => exact ⟨0, Nat.zero_le _, Nat.zero_le _, rfl, rfl, MvI.start w⟩
  case round =>
    obtain ⟨w0, hw0⟩ : ∃ w0, w0 = wr := ⟨_, rfl⟩
    subst hw0
    obtain ⟨k, hk, hkh, rfl, rfl, hI⟩ := hrel
    have hLl : (mvTo xs hp k).length ≤ 1812 := by
      have h1 := mvTo_len xs hp k
      have h2 : k * (hp + 2) ≤ 6 * 302 := Nat.mul_le_mul (by omega) (by omega)
      omega
    obtain ⟨g, cap, rs, rfl, ho, hL, hb, hrl, hB, hAr⟩ := hI.open
    have HI := Lib.hid hI
    clear hI
    by_cases hgo : k < xs.length ∧ k < hp
    · obtain ⟨hkl, hk2⟩ := hgo
      obtain ⟨b, off, rfl, _, hc⟩ := (rd.below hb.out).at_ hkl
      have hd := goodC_mem' hg hkl
      obtain ⟨d, hdd⟩ := Int.eq_ofNat_of_zero_le hd.1
      rw [hdd] at hc
      have hd8 : d < 8 := by omega
      obtain ⟨r, hr⟩ : ∃ r, hp - (k + 1) = r := ⟨_, rfl⟩
      have er : (hp : Int) - (k : Int) - 1 = (r : Int) := by omega
      have hrh : r < hp := by omega
      have hop := Lib.hid (mv_step xs hp k d r hdd hr)
      obtain ⟨L, hL0⟩ : ∃ L, Hid (mvTo xs hp k = L) := ⟨_, Lib.hid rfl⟩
      rw [hL0.out] at hL hop HI hLl hrl
      have HRD := Lib.hid rd
      clear hdd hd hr rd
      obtain ⟨q1, hq1⟩ : ∃ q, Hid (decide (d % 2 = 1 ∧ r = 0) = q) := ⟨_, Lib.hid rfl⟩
      obtain ⟨q2, hq2⟩ : ∃ q, Hid (decide (d / 2 % 2 = 1 ∧ 0 < r) = q) := ⟨_, Lib.hid rfl⟩
      go_upto_region 7 with fail
      go_cut [7, 8, 30] (fun v7 v8 v30 wx => v7 = .int .i64 d ∧ v8 = .int .i64 r ∧ v30 = .bool q1 ∧ w0 = wx)
      case first =>
        rcases Nat.mod_two_eq_zero_or_one d with h1 | h1
        · have hA : bits .and .i64 (d : Int) 1 = 0 := by rw [(bit_and d hd8).1, h1]; rfl
          have hq : Hid (false = q1) := Lib.hid (by rw [← hq1.out, h1]; simp)
          go_wp2_with fail
          go_meet
          case rel => exact ⟨rfl, rfl, by rw [← hq.out], rfl⟩
        · have hA : bits .and .i64 (d : Int) 1 = 1 := by rw [(bit_and d hd8).1, h1]; rfl
          by_cases h0 : r = 0
          · have hq : Hid (true = q1) := Lib.hid (by rw [← hq1.out, h1, h0]; simp)
            go_wp2_with fail
            go_meet
            case rel => exact ⟨rfl, by rw [h0], by rw [← hq.out], rfl⟩
          · have hq : Hid (false = q1) := Lib.hid (by rw [← hq1.out]; simp [h0])
            have h0' : ¬ (r : Int) = 0 := by omega
            go_wp2_with fail
            go_meet
            case rel => exact ⟨rfl, rfl, by rw [← hq.out]; simp [h0], rfl⟩
      case rest =>
        obtain ⟨rfl, rfl, rfl, rfl⟩ := hcut
        go_upto_if 30 with fail
        go_cut [5] (fun v wx => MvI w wx v (L ++ mv1 d r))
        case first =>
          cases q1
          · have ho : Hid (L ++ mv1 d r = L) := Lib.hid (by rw [mv1, if_neg (of_decide_eq_false hq1.out), List.append_nil])
            go_wp2_with fail
            go_meet
            case rel => rw [ho.out]; exact HI.out
          · have hov : Hid (L ++ mv1 d r = L ++ [[]]) := Lib.hid (by rw [mv1, if_pos (of_decide_eq_true hq1.out)])
            go_wp2_with (at_builtin; refine app1n _ (w0.heap.size + 1) (by simp) 23 22 (.slice none 0 0) 24 Try.underlying23 hI_row rfl rfl (.tmp 31) (.tmp 33) rfl w.heap.size _ _ _ rfl (ho.out.outer.alloc _) (.slice (some ⟨w0.heap.size, 0, none⟩) 0 0) rfl rfl (by omega) (by omega) (by simp; omega) ?_; intro g' cap' w' h1 h2 h3)
            go_meet
            case rel => rw [hov.out]; exact MvI.add ho.out hL.out hb.out hAr.out [] (by decide) h1 h2 h3
        case rest =>
          obtain ⟨g, cap, rs, rfl, ho, hL, hb, hrl, hB, hAr⟩ := hcut.open
          have HI := Lib.hid hcut
          have hm1 := mv1_len d r
          rw [List.length_append] at hrl
          clear hcut hm1
          have hrl : rs.length ≤ 1813 := by have := mv1_len d r; omega
          obtain ⟨L1, hL1⟩ : ∃ M, Hid (L ++ mv1 d r = M) := ⟨_, Lib.hid rfl⟩
          rw [hL1.out] at HI hL hop
          go_upto_region 9 with fail
          go_cut [41] (fun v41 wx => v41 = .bool q2 ∧ wc = wx)
          case first =>
            rcases Nat.mod_two_eq_zero_or_one (d / 2) with h1 | h1
            · have hA : bits .and .i64 (d : Int) 2 = 0 := by rw [(bit_and d hd8).2.1, h1]; rfl
              have hq : Hid (false = q2) := Lib.hid (by rw [← hq2.out, h1]; simp)
              go_wp2_with fail
              go_meet
              case rel => exact ⟨by rw [← hq.out], rfl⟩
            · have hA : bits .and .i64 (d : Int) 2 = 2 := by rw [(bit_and d hd8).2.1, h1]; rfl
              have hq : Hid (decide (0 < r) = q2) := Lib.hid (by rw [← hq2.out, h1]; simp)
              go_wp2_with fail
              go_meet
              case rel => exact ⟨by rw [← hq.out], rfl⟩
          case rest =>
            obtain ⟨rfl, rfl⟩ := hcut
            go_upto_if 41 with fail
            go_cut [5] (fun v wx => MvI w wx v (L1 ++ mv2 d r))
            case first =>
              cases q2
              · have hov : Hid (L1 ++ mv2 d r = L1) := Lib.hid (by rw [mv2, if_neg (of_decide_eq_false hq2.out), List.append_nil])
                go_wp2_with fail
                go_meet
                case rel => rw [hov.out]; exact HI.out
              · have hov : Hid (L1 ++ mv2 d r = L1 ++ [[(r : Int)]]) := Lib.hid (by rw [mv2, if_pos (of_decide_eq_true hq2.out)])
                go_wp2_with (at_builtin; refine app1n _ (wc.heap.size + 1) (by simp) 23 22 (.slice none 0 0) 24 Try.underlying23 hI_row rfl rfl (.tmp 42) (.tmp 45) rfl w.heap.size _ _ _ rfl (ho.out.outer.alloc _) (.slice (some ⟨wc.heap.size, 0, none⟩) 1 1) rfl rfl (by omega) (by omega) (by simp; omega) ?_; intro g' cap' w' h1 h2 h3)
                go_meet
                case rel => rw [hov.out]; exact MvI.add ho.out hL.out hb.out hAr.out [(r : Int)] (by simp) h1 h2 h3
            case rest =>
              have HI2 := Lib.hid hcut
              obtain ⟨L2, hL2⟩ : ∃ M, Hid (L1 ++ mv2 d r = M) := ⟨_, Lib.hid rfl⟩
              have hLl2 : L2.length ≤ 1814 := by
                have := mv2_len d r
                have h4 := hL.out
                have h5 : L1.length = rs.length := by rw [← h4]; simp
                rw [← hL2.out, List.length_append]; omega
              rw [hL2.out] at HI2 hop
              clear hcut ho hL hb HI hrl hB hAr
              rcases Nat.mod_two_eq_zero_or_one (d / 4) with h1 | h1
              · have hA : bits .and .i64 (d : Int) 4 = 0 := by rw [(bit_and d hd8).2.2, h1]; rfl
                have hov : Hid (mvTo xs hp (k + 1) = L2) := Lib.hid (by rw [hop.out, mv4, if_neg (by omega), List.append_nil])
                go_wp2_with fail
                go_loopg [5, 9] 0 (fun m o a wx => a = .int .i64 1 ∧ MvI w wx o L2)
                case atStart => exact ⟨rfl, HI2.out⟩
                case round =>
                  obtain ⟨rfl, hI⟩ := hrel
                  have HI3 := Lib.hid hI
                  clear hI
                  go_wp2_with fail
                  go_roundg (xs.length - (k + 1))
                  case measure => omega
                  case rel => exact ⟨k + 1, by omega, by omega, rfl, by go_num, by rw [hov.out]; exact HI3.out⟩
              · have hA : bits .and .i64 (d : Int) 4 = 4 := by rw [(bit_and d hd8).2.2, h1]; rfl
                have hov : Hid (mvTo xs hp (k + 1) = L2 ++ prs r (r / 2)) := Lib.hid (by rw [hop.out, mv4, if_pos h1])
                go_wp2_with fail
                go_loopg [5, 9] (r / 2) (fun m o a wx => ∃ j : Nat, j ≤ r / 2 ∧ m = r / 2 - j ∧ a = .int .i64 ((j : Int) + 1) ∧ MvI w wx o (L2 ++ prs r j))
                case atStart => exact ⟨0, Nat.zero_le _, rfl, rfl, by simpa [prs] using HI2.out⟩
                case round =>
                  obtain ⟨j, hj, rfl, rfl, hI⟩ := hrel
                  by_cases hj2 : j < r / 2
                  · obtain ⟨wy, hwy⟩ : ∃ wy, wy = wr := ⟨_, rfl⟩
                    subst hwy
                    obtain ⟨g, cap, rs, rfl, ho, hL, hb, hrl, hB, hAr⟩ := hI.open
                    have hrl : rs.length ≤ 2000 := by rw [List.length_append, prs_len] at hrl; omega
                    have hpr := Lib.hid (prs_succ r j)
                    have e1 : (((j + 1 : Nat) : Int)) = (j : Int) + 1 := by omega
                    have e2 : (((r - (j + 1) : Nat) : Int)) = (r : Int) - ((j : Int) + 1) := by omega
                    rw [e1, e2] at hpr
                    clear hI e1 e2
                    go_wp2_with (at_builtin; refine app1n _ (wy.heap.size + 1) (by simp) 23 22 (.slice none 0 0) 24 Try.underlying23 hI_row rfl rfl (.tmp 58) (.tmp 64) rfl w.heap.size _ _ _ rfl (ho.out.outer.alloc _) (.slice (some ⟨wy.heap.size, 0, none⟩) 2 2) rfl rfl (by omega) (by omega) (by simp; omega) ?_; intro g' cap' w' h1 h2 h3)
                    go_roundg (r / 2 - (j + 1))
                    case measure => omega
                    case rel => exact ⟨j + 1, by omega, rfl, by go_num, by rw [hpr.out, ← List.append_assoc]; exact MvI.add ho.out hL.out hb.out hAr.out [(j : Int) + 1, (r : Int) - ((j : Int) + 1)] (by simp) h1 h2 h3⟩
                  · obtain rfl : j = r / 2 := by omega
                    have HI3 := Lib.hid hI
                    clear hI
                    go_wp2_with fail
                    go_roundg (xs.length - (k + 1))
                    case measure => omega
                    case rel => exact ⟨k + 1, by omega, by omega, rfl, by go_num, by rw [hov.out]; exact HI3.out⟩
    · have fin : Hid (mvs xs hp = mvTo xs hp k) := Lib.hid (by unfold mvs; congr 1; omega)
      have hL2 := Lib.hid (hL.out.trans fin.out.symm)
      have HS := c_sortedHeaps w.heap.size g cap rs w0 ho.out (by omega) (fun s hs => by
        have : s.xs ∈ mvs xs hp := by rw [← hL2.out]; exact List.mem_map_of_mem hs
        have := (mvs_mem.1 this)
        obtain ⟨i, _, _, h3⟩ := this
        have := (mvK_facts h3).1
        omega)
      by_cases hkl : k < xs.length
      · obtain rfl : hp = k := by omega
        obtain ⟨b, off, rfl, _, hc⟩ := (rd.below hb.out).at_ hkl
        go_wp2_with fail
        refine HS.mono ?_
        rintro e w1 ⟨rs1, rfl, o1, e1, g1, s1⟩
        have fin2 : Hid (MvI w w1 (.slice (some ⟨g, 0, none⟩) rs1.length cap) (moves xs hp)) := Lib.hid ⟨g, cap, rs1, rfl, o1, by rw [e1, hL2.out]; rfl, hb.out.grown g1 hB (fun j hj => by
          have := Option.some.inj hj
          have := (ho.out.outer.lt g rfl).1
          omega), fun r hr => hAr.out r (s1 r hr)⟩
        clear o1 e1 g1 s1
        go_wp2_with fail
        go_ret
        exact ⟨_, rfl, fin2.out⟩
      · obtain rfl : k = xs.length := by omega
        go_wp2_with fail
        refine HS.mono ?_
        rintro e w1 ⟨rs1, rfl, o1, e1, g1, s1⟩
        have fin2 : Hid (MvI w w1 (.slice (some ⟨g, 0, none⟩) rs1.length cap) (moves xs hp)) := Lib.hid ⟨g, cap, rs1, rfl, o1, by rw [e1, hL2.out]; rfl, hb.out.grown g1 hB (fun j hj => by
          have := Option.some.inj hj
          have := (ho.out.outer.lt g rfl).1
          omega), fun r hr => hAr.out r (s1 r hr)⟩
        clear o1 e1 g1 s1
        go_wp2_with fail
        go_ret
        exact ⟨_, rfl, fin2.out⟩
end Go.Proofs.Ytoeacocijcammaa
