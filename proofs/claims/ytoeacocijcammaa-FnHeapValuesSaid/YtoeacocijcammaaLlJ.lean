/- The reference's moves of a heap: l17Moves. -/
import Derived.Test.YtoeacocijcammaaLlC
import Derived.Test.YtoeacocijcammaaMvP
import Derived.Test.YtoeacocijcammaaHvB
namespace Go.Proofs.Ytoeacocijcammaa
open Go.RowKit

/-- A slice of rows that are read: what was put, one by one. -/
def PutI (w wx : World) (v : Value) (M : List (List Int)) : Prop :=
  ∃ g o c rs, v = .slice (some ⟨g, o, none⟩) rs.length c ∧ RdL wx (some ⟨g, o, none⟩) rs.length rs ∧ rs.length ≤ c ∧ nums rs = putAll [] M ∧ Below w.heap.size w wx ∧ M.length ≤ 900000 ∧ (∀ m ∈ M, m.length ≤ 100000000) ∧ ∀ r ∈ rs, (∃ b o, r.A = some ⟨b, o, none⟩ ∧ w.heap.size ≤ b) ∧ r.xs.length ≤ r.c
theorem PutI.start (w : World) : PutI w (w.alloc (.cells #[] 22)) (.slice (some ⟨w.heap.size, 0, none⟩) 0 0) [] :=
  ⟨w.heap.size, 0, 0, [], rfl, ⟨RdV.nil, fun r hr => by simp at hr⟩, Nat.le_refl _, rfl, (Below.refl _ _).alloc (Nat.le_refl _) _, by simp, fun m hm => by simp at hm, fun r hr => by simp at hr⟩
theorem PutI.open {w wx : World} {v : Value} {M : List (List Int)} (h : PutI w wx v M) : ∃ g o c rs, v = .slice (some ⟨g, o, none⟩) rs.length c ∧ Hid (RdL wx (some ⟨g, o, none⟩) rs.length rs) ∧ rs.length ≤ c ∧ Hid (nums rs = putAll [] M) ∧ Hid (Below w.heap.size w wx) ∧ w.heap.size ≤ wx.heap.size ∧ rs.length ≤ M.length := by
  obtain ⟨g, o, c, rs, e, hr, hc, hn, hb, _⟩ := h
  refine ⟨g, o, c, rs, e, Lib.hid hr, hc, Lib.hid hn, Lib.hid hb, hb.size, ?_⟩
  have := putAll_len M []
  rw [← hn] at this; simpa using this
theorem PutI.q {w wx wy : World} {v : Value} {M : List (List Int)} (h : PutI w wx v M) (q : Below wx.heap.size wx wy) : PutI w wy v M := by
  obtain ⟨g, o, c, rs, e, hr, hc, hn, hb, r⟩ := h
  exact ⟨g, o, c, rs, e, hr.below q, hc, hn, Below.next hb q, r⟩
/-- l17Put of a row that is read. -/
theorem PutI.put {w wx : World} {g o c : Nat} {n : Nat} {M : List (List Int)} (h : PutI w wx (.slice (some ⟨g, o, none⟩) n c) M) (r : Row) (hr : r.rd wx) (hA : (∃ b o, r.A = some ⟨b, o, none⟩ ∧ w.heap.size ≤ b) ∧ r.xs.length ≤ r.c) (hm : r.xs.length ≤ 100000000) (hM : M.length < 900000) :
    Calls Try.prog 62 #[.slice (some ⟨g, o, none⟩) n c, .slice r.A r.xs.length r.c] wx fun e w' => ∃ v, e = .returned v ∧ PutI w w' v (M ++ [r.xs]) ∧ Below wx.heap.size wx w' := by
  obtain ⟨g, o, c, rs, e, hR, hc, hn, hb, hl, hs, hAs⟩ := h
  cases e
  have hlen := putAll_len M []
  rw [← hn] at hlen
  simp at hlen
  have hsmall : ∀ s ∈ rs, s.xs.length ≤ 100000000 := fun s hs2 => by
    have h1 : s.xs ∈ putAll [] M := by rw [← hn]; exact List.mem_map_of_mem hs2
    rcases putAll_mem.1 h1 with h1 | h1
    · simp at h1
    · exact hs _ h1
  refine (c_l17Put g o rs.length c rs r wx hR hc hr (by omega) hsmall hm).mono ?_
  rintro e w1 ⟨g', o', c', rs', rfl, hR', hc', hn', hb', hsub⟩
  refine ⟨_, rfl, ⟨g', o', c', rs', rfl, hR', hc', by rw [hn', putAll_snoc, hn], Below.next hb hb', by simp; omega, fun m hm2 => ?_, fun s hs2 => ?_⟩, hb'⟩
  rotate_left
  · rcases hsub s hs2 with rfl | h1
    · exact hA
    · exact hAs s h1
  rcases List.mem_append.1 hm2 with h1 | h1
  · exact hs m h1
  · obtain rfl := List.mem_singleton.1 h1; exact hm
/-- .. of a new row. -/
theorem PutI.new {w wx : World} {g o c : Nat} {n : Nat} {M : List (List Int)} (h : PutI w wx (.slice (some ⟨g, o, none⟩) n c) M) (ms : List Int) (m : Nat) (cs : Array Value) (hm : ms.length = m) (hcs : (ms.map (Value.int .i64)).toArray = cs) (hm2 : m ≤ 1000) (hM : M.length < 900000) :
    Calls Try.prog 62 #[.slice (some ⟨g, o, none⟩) n c, .slice (some ⟨wx.heap.size, 0, none⟩) m m] (wx.alloc (.cells cs 3)) fun e w' => ∃ v, e = .returned v ∧ PutI w w' v (M ++ [ms]) := by
  subst hm hcs
  have hown := own_block (w := wx.alloc (.cells (ms.map (Value.int .i64)).toArray 3)) (base := 0) (n := ms.length) (heap_alloc_new wx _) (Nat.zero_le _) (by simp) hm2
  have hrd : RdI (wx.alloc (.cells (ms.map (Value.int .i64)).toArray 3)) (some ⟨wx.heap.size, 0, none⟩) ms.length ms := by
    have := RdV.of_own hown
    simpa [RdI] using this
  have hB0 : w.heap.size ≤ wx.heap.size := by obtain ⟨_, _, _, _, _, hb⟩ := h.open; exact hb.2.2.2.2.1
  refine ((h.q ((Below.refl _ _).alloc (Nat.le_refl _) _)).put ⟨some ⟨wx.heap.size, 0, none⟩, ms.length, ms⟩ hrd ⟨⟨_, _, rfl, hB0⟩, Nat.le_refl _⟩ (by show ms.length ≤ _; omega) hM).mono ?_
  rintro e w1 ⟨v, he, hI, _⟩
  exact ⟨v, he, hI⟩
theorem mv_step' (xs : List Int) (h k d r : Nat) (hd : xs.getD k 0 = (d : Int)) (hr : h - (k + 1) = r) : mvTo xs h (k + 1) = mvTo xs h k ++ mv1 d r ++ mv2 d r ++ mv4 d r := by
  rw [mvTo, hd, hr]; simp [mvK]
theorem mv1_le (d r : Nat) : (mv1 d r).length ≤ 1 := by unfold mv1; split <;> simp
theorem mv2_le (d r : Nat) : (mv2 d r).length ≤ 1 := by unfold mv2; split <;> simp

set_option maxRecDepth 100000 in
set_option maxHeartbeats 3200000 in
theorem s_l17Moves (A : Option Addr) (c : Nat) (xs : List Int) (hp : Nat) (w : World) (rd : RdI w A xs.length xs) (hg : goodC xs = true) (hh : hp ≤ 300) :
    Calls Try.prog 41 #[.slice A xs.length c, .int .i64 hp] w fun e w' => ∃ v, e = .returned v ∧ PutI w w' v (mvs xs hp) := by
  have hx6 : xs.length ≤ 6 := (goodC_iff.1 hg).2.1
  go_enter Try.func41, Try.ntmps41
  go_wp2_with fail
  go_loopg [5, 6] xs.length (fun m o i wx => ∃ k : Nat, k ≤ xs.length ∧ k ≤ hp ∧ m = xs.length - k ∧ i = .int .i64 ((k : Int) + 1) ∧ PutI w wx o (mvTo xs hp k))
  case atStart => exact ⟨0, Nat.zero_le _, Nat.zero_le _, rfl, rfl, PutI.start w⟩
  case round =>
    obtain ⟨w0, hw0⟩ : ∃ w0, w0 = wr := ⟨_, rfl⟩
    subst hw0
    obtain ⟨k, hk, hkh, rfl, rfl, hI⟩ := hrel
    have hLl : (mvTo xs hp k).length ≤ 1812 := by
      have h1 := mvTo_len xs hp k
      have h2 : k * (hp + 2) ≤ 6 * 302 := Nat.mul_le_mul (by omega) (by omega)
      omega
    obtain ⟨g, o, cap, rs, rfl, hR, hcap, hL, hb, hB, hrl⟩ := hI.open
    have HI := Lib.hid hI
    clear hI
    by_cases hgo : k < xs.length ∧ k < hp
    · obtain ⟨hkl, hk2⟩ := hgo
      obtain ⟨b, off, rfl, _, hc⟩ := (rd.below hb.out).at_ hkl
      have hd := goodC_mem' hg hkl
      have hkl1 : (k : Int) + 1 ≤ (xs.length : Int) := by omega
      have hkl2 : decide ((k : Int) + 1 ≤ (xs.length : Int)) = true := decide_eq_true hkl1
      have hk21 : (k : Int) + 1 ≤ (hp : Int) := by omega
      obtain ⟨d, hdd⟩ := Int.eq_ofNat_of_zero_le hd.1
      rw [hdd] at hc
      have hd8 : d < 8 := by omega
      obtain ⟨r, hr⟩ : ∃ r, hp - (k + 1) = r := ⟨_, rfl⟩
      have er : (hp : Int) - ((k : Int) + 1) = (r : Int) := by omega
      have hrh : r < hp := by omega
      have hop := Lib.hid (mv_step' xs hp k d r hdd hr)
      obtain ⟨L, hL0⟩ : ∃ L, Hid (mvTo xs hp k = L) := ⟨_, Lib.hid rfl⟩
      rw [hL0.out] at hL hop HI hLl hrl
      have HRD := Lib.hid rd
      clear hdd hd hr rd
      obtain ⟨q1, hq1⟩ : ∃ q, Hid (decide (d % 2 = 1 ∧ r = 0) = q) := ⟨_, Lib.hid rfl⟩
      obtain ⟨q2, hq2⟩ : ∃ q, Hid (decide (d / 2 % 2 = 1 ∧ 0 < r) = q) := ⟨_, Lib.hid rfl⟩
      go_upto_region 7 with fail
      go_cut [7, 8, 35] (fun v7 v8 v30 wx => v7 = .int .i64 d ∧ v8 = .int .i64 r ∧ v30 = .bool q1 ∧ w0 = wx)
      case first =>
        rcases Nat.mod_two_eq_zero_or_one d with h1 | h1
        · have hA := Lib.hid (decide_eq_false (p := d % 2 = 1) (by omega))
          have hq : Hid (false = q1) := Lib.hid (by rw [← hq1.out, h1]; simp)
          clear h1
          go_wp2_with (go_at_call 61; refine (c_bit1 d false _ hd8 hA.out).mono ?_; rintro e w' ⟨rfl, rfl⟩)
          go_meet
          case rel => exact ⟨rfl, rfl, by rw [← hq.out], rfl⟩
        · have hA := Lib.hid (decide_eq_true (p := d % 2 = 1) (by omega))
          by_cases h0 : r = 0
          · have hq : Hid (true = q1) := Lib.hid (by rw [← hq1.out, h1, h0]; simp)
            have h0' : ((r : Int) == 0) = true := by simp [h0]
            clear h1 h0
            go_wp2_with (go_at_call 61; refine (c_bit1 d true _ hd8 hA.out).mono ?_; rintro e w' ⟨rfl, rfl⟩)
            go_meet
            case rel => exact ⟨rfl, rfl, by rw [← hq.out], rfl⟩
          · have hq : Hid (false = q1) := Lib.hid (by rw [← hq1.out]; simp [h0])
            have h0' : ((r : Int) == 0) = false := by simp; omega
            clear h1 h0
            go_wp2_with (go_at_call 61; refine (c_bit1 d true _ hd8 hA.out).mono ?_; rintro e w' ⟨rfl, rfl⟩)
            go_meet
            case rel => exact ⟨rfl, rfl, by rw [← hq.out], rfl⟩
      case rest =>
        obtain ⟨rfl, rfl, rfl, rfl⟩ := hcut
        go_upto_if 35 with fail
        go_cut [5] (fun v wx => PutI w wx v (L ++ mv1 d r))
        case first =>
          cases q1
          · have hov : Hid (L ++ mv1 d r = L) := Lib.hid (by rw [mv1, if_neg (of_decide_eq_false hq1.out), List.append_nil])
            go_wp2_with fail
            go_meet
            case rel => rw [hov.out]; exact HI.out
          · have hov : Hid (L ++ mv1 d r = L ++ [[]]) := Lib.hid (by rw [mv1, if_pos (of_decide_eq_true hq1.out)])
            go_wp2_with fail
            refine (PutI.new HI.out [] 0 #[] rfl rfl (by omega) (by omega)).mono ?_
            rintro e w1 ⟨v, rfl, hI⟩
            have hI := Lib.hid hI
            go_wp2_with fail
            go_meet
            case rel => rw [hov.out]; exact hI.out
        case rest =>
          obtain ⟨g, o, cap, rs, rfl, hR, hcap, hL, hb, hB, hrl⟩ := hcut.open
          have HI := Lib.hid hcut
          clear hcut
          have hLl1 : (L ++ mv1 d r).length ≤ 1813 := by have := mv1_le d r; rw [List.length_append]; omega
          obtain ⟨L1, hL1⟩ : ∃ M, Hid (L ++ mv1 d r = M) := ⟨_, Lib.hid rfl⟩
          rw [hL1.out] at HI hL hop hLl1 hrl
          go_upto_region 9 with fail
          go_cut [44] (fun v41 wx => v41 = .bool q2 ∧ wc = wx)
          case first =>
            rcases Nat.mod_two_eq_zero_or_one (d / 2) with h1 | h1
            · have hA := Lib.hid (decide_eq_false (p := d / 2 % 2 = 1) (by omega))
              have hq : Hid (false = q2) := Lib.hid (by rw [← hq2.out, h1]; simp)
              clear h1
              go_wp2_with (go_at_call 61; refine (c_bit2 d false _ hd8 hA.out).mono ?_; rintro e w' ⟨rfl, rfl⟩)
              go_meet
              case rel => exact ⟨by rw [← hq.out], rfl⟩
            · have hA := Lib.hid (decide_eq_true (p := d / 2 % 2 = 1) (by omega))
              by_cases h0 : 0 < r
              · have hq : Hid (true = q2) := Lib.hid (by rw [← hq2.out, h1]; simp [h0])
                have h0' : (0 : Int) < (r : Int) := by omega
                clear h1
                go_wp2_with (go_at_call 61; refine (c_bit2 d true _ hd8 hA.out).mono ?_; rintro e w' ⟨rfl, rfl⟩)
                go_meet
                case rel => exact ⟨by rw [← hq.out], rfl⟩
              · have hq : Hid (false = q2) := Lib.hid (by rw [← hq2.out]; simp [h0])
                have h0' : decide ((0 : Int) < (r : Int)) = false := by rw [decide_eq_false_iff_not]; omega
                clear h1
                go_wp2_with (go_at_call 61; refine (c_bit2 d true _ hd8 hA.out).mono ?_; rintro e w' ⟨rfl, rfl⟩)
                go_meet
                case rel => exact ⟨by rw [← hq.out], rfl⟩
          case rest =>
            obtain ⟨rfl, rfl⟩ := hcut
            go_upto_if 44 with fail
            go_cut [5] (fun v wx => PutI w wx v (L1 ++ mv2 d r))
            case first =>
              cases q2
              · have hov : Hid (L1 ++ mv2 d r = L1) := Lib.hid (by rw [mv2, if_neg (of_decide_eq_false hq2.out), List.append_nil])
                go_wp2_with fail
                go_meet
                case rel => rw [hov.out]; exact HI.out
              · have hov : Hid (L1 ++ mv2 d r = L1 ++ [[(r : Int)]]) := Lib.hid (by rw [mv2, if_pos (of_decide_eq_true hq2.out)])
                go_wp2_with fail
                refine (PutI.new HI.out [(r : Int)] 1 #[.int .i64 r] rfl rfl (by omega) (by omega)).mono ?_
                rintro e w1 ⟨v, rfl, hI⟩
                have hI := Lib.hid hI
                go_wp2_with fail
                go_meet
                case rel => rw [hov.out]; exact hI.out
            case rest =>
              have HI2 := Lib.hid hcut
              have hLl2 : (L1 ++ mv2 d r).length ≤ 1814 := by have := mv2_le d r; rw [List.length_append]; omega
              obtain ⟨L2, hL2⟩ : ∃ M, Hid (L1 ++ mv2 d r = M) := ⟨_, Lib.hid rfl⟩
              rw [hL2.out] at HI2 hop hLl2
              clear hcut hR hL hb HI hrl hB hcap
              rcases Nat.mod_two_eq_zero_or_one (d / 4) with h1 | h1
              · have hA := Lib.hid (decide_eq_false (p := d / 4 % 2 = 1) (by omega))
                have hov : Hid (mvTo xs hp (k + 1) = L2) := Lib.hid (by rw [hop.out, mv4, if_neg (by omega), List.append_nil])
                clear h1
                go_wp2_with fail
                go_loopg [5, 9] 0 (fun m o a wx => a = .int .i64 1 ∧ PutI w wx o L2)
                case atStart => exact ⟨rfl, HI2.out⟩
                case round =>
                  obtain ⟨rfl, hI⟩ := hrel
                  have HI3 := Lib.hid hI
                  clear hI
                  go_wp2_with (go_at_call 61; refine (c_bit4 d false _ hd8 hA.out).mono ?_; rintro e w' ⟨rfl, rfl⟩)
                  go_roundg (xs.length - (k + 1))
                  case measure => omega
                  case rel => exact ⟨k + 1, by omega, by omega, rfl, by go_num, by rw [hov.out]; exact HI3.out⟩
              · have hA := Lib.hid (decide_eq_true (p := d / 4 % 2 = 1) (by omega))
                have hov : Hid (mvTo xs hp (k + 1) = L2 ++ prs r (r / 2)) := Lib.hid (by rw [hop.out, mv4, if_pos h1])
                clear h1
                go_wp2_with fail
                go_loopg [5, 9] (r / 2) (fun m o a wx => ∃ j : Nat, j ≤ r / 2 ∧ m = r / 2 - j ∧ a = .int .i64 ((j : Int) + 1) ∧ PutI w wx o (L2 ++ prs r j))
                case atStart => exact ⟨0, Nat.zero_le _, rfl, rfl, by simpa [prs] using HI2.out⟩
                case round =>
                  obtain ⟨j, hj, rfl, rfl, hI⟩ := hrel
                  by_cases hj2 : j < r / 2
                  · obtain ⟨wy, hwy⟩ : ∃ wy, wy = wr := ⟨_, rfl⟩
                    subst hwy
                    obtain ⟨g, o, cap, rs, rfl, hR, hcap, hL, hb, hB, hrl⟩ := hI.open
                    have hlen : (L2 ++ prs r j).length ≤ 2000 := by rw [List.length_append, prs_len]; omega
                    have hpr := Lib.hid (prs_succ r j)
                    have e1 : (((j + 1 : Nat) : Int)) = (j : Int) + 1 := by omega
                    have e2 : (((r - (j + 1) : Nat) : Int)) = (r : Int) - ((j : Int) + 1) := by omega
                    rw [e1, e2] at hpr
                    have HI3 := Lib.hid hI
                    clear hI e1 e2
                    have hj3 : 2 * ((j : Int) + 1) ≤ (r : Int) := by omega
                    go_wp2_with (go_at_call 61; refine (c_bit4 d true _ hd8 hA.out).mono ?_; rintro e w' ⟨rfl, rfl⟩)
                    refine (PutI.new HI3.out [(j : Int) + 1, (r : Int) - ((j : Int) + 1)] 2 #[.int .i64 ((j : Int) + 1), .int .i64 ((r : Int) - ((j : Int) + 1))] rfl rfl (by omega) (by omega)).mono ?_
                    rintro e w1 ⟨v, rfl, hI⟩
                    have hI := Lib.hid hI
                    go_wp2_with fail
                    go_roundg (r / 2 - (j + 1))
                    case measure => omega
                    case rel => exact ⟨j + 1, by omega, rfl, by go_num, by rw [hpr.out, ← List.append_assoc]; exact hI.out⟩
                  · obtain rfl : j = r / 2 := by omega
                    have HI3 := Lib.hid hI
                    clear hI
                    have hj3 : ¬ 2 * (((r / 2 : Nat) : Int) + 1) ≤ (r : Int) := by omega
                    have hj4 : decide (2 * (((r / 2 : Nat) : Int) + 1) ≤ (r : Int)) = false := decide_eq_false hj3
                    go_wp2_with (go_at_call 61; refine (c_bit4 d true _ hd8 hA.out).mono ?_; rintro e w' ⟨rfl, rfl⟩)
                    go_roundg (xs.length - (k + 1))
                    case measure => omega
                    case rel => exact ⟨k + 1, by omega, by omega, rfl, by go_num, by rw [hov.out]; exact HI3.out⟩
    · have fin : Hid (mvs xs hp = mvTo xs hp k) := Lib.hid (by unfold mvs; congr 1; omega)
      by_cases hkl : k < xs.length
      · obtain rfl : hp = k := by omega
        have hkl1 : (hp : Int) + 1 ≤ (xs.length : Int) := by omega
        have hkl2 : decide ((hp : Int) + 1 ≤ (xs.length : Int)) = true := decide_eq_true hkl1
        have hkl3 : ¬ (hp : Int) + 1 ≤ (hp : Int) := by omega
        go_wp2_with fail
        go_ret
        exact ⟨_, rfl, by rw [fin.out]; exact HI.out⟩
      · obtain rfl : k = xs.length := by omega
        have hkl3 : ¬ (xs.length : Int) + 1 ≤ (xs.length : Int) := by omega
        have hkl4 : decide ((xs.length : Int) + 1 ≤ (xs.length : Int)) = false := decide_eq_false hkl3
        go_wp2_with fail
        go_ret
        exact ⟨_, rfl, by rw [fin.out]; exact HI.out⟩
end Go.Proofs.Ytoeacocijcammaa
