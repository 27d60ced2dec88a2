/- Slices of texts: equality, marks; splitting a text at a byte; the walk of the law on SplitText. -/
import Derived.Test.YtppaplgeecojgaaTxB
import Derived.Deep.RegionHeld3
namespace Go.Proofs.Ytppaplgeecojgaa
open Go.RowKit

set_option maxHeartbeats 400000 in
theorem c_eqStringS_same (A A' : Option Addr) (n c c' : Nat) (l : List ByteArray) (w : World) (hr : RdS w A n l) (hr' : RdS w A' n l) (hn : n ≤ 1048576) :
    Calls Try.prog 14 #[.slice A n c, .slice A' n c'] w fun e w' => e = .returned (.bool true) ∧ Q w w' := by
  go_enter Try.func14, Try.ntmps14
  go_wp2_with fail
  go_loopw [5] (fun i wr => ∃ k : Nat, k ≤ n ∧ i = .int .i64 k ∧ Q w wr) (fun i _ => n - (intOf i).toNat)
  case atStart => exact ⟨0, Nat.zero_le _, rfl, Q.refl _⟩
  case round =>
    rename_i wr
    obtain ⟨k, hk, rfl, q⟩ := hrel
    by_cases hlt : k < n
    · obtain ⟨b, off, rfl, _, hc⟩ := (hr.q q).at_ hlt
      obtain ⟨b', off', rfl, _, hc'⟩ := (hr'.q q).at_ hlt
      clear hr hr'
      generalize l.getD k ByteArray.empty = y at *
      have h0 : (0 : Int) ≤ k := by omega
      have h1 : (k : Int) < n := by omega
      go_wp2_with fail
      go_quiet (fail)
      go_wp2_with fail
      go_roundw
      case rel => exact ⟨k + 1, by omega, by go_num, q.drew _⟩
      case measure => simp [intOf]; omega
    · go_wp2_with fail
      go_ret
      exact ⟨rfl, q⟩
/-- Marks from k on. -/
def mkS (k n : Nat) : List ByteArray := (List.range n).map fun j => mt (k + j)
theorem mkS_len (k n : Nat) : (mkS k n).length = n := by simp [mkS]
theorem mkS_succ (k n : Nat) : mkS k (n + 1) = mkS k n ++ [mt (k + n)] := by simp [mkS, List.range_succ]
theorem mkS_getD (k : Nat) {n j : Nat} (h : j < n) : (mkS k n).getD j ByteArray.empty = mt (k + j) := by simp [mkS, h]
theorem set_mkS (k : Nat) (xs : List ByteArray) {i : Nat} (h : i < xs.length) : (mkS k i ++ xs.drop i).set i (mt (k + i)) = mkS k (i + 1) ++ xs.drop (i + 1) := by
  rw [List.set_append_right i _ (by rw [mkS_len]; omega), mkS_len, Nat.sub_self, mkS_succ, List.drop_eq_getElem_cons h, List.set_cons_zero, List.append_assoc]
  rfl
set_option maxHeartbeats 800000 in
theorem c_markStringS (A : Option Addr) (c base : Nat) (xs : List ByteArray) (k : Nat) (w : World) (hown : OwnS w base A c xs) (hn : xs.length ≤ 10000000) (h0 : 1 ≤ k) (h1 : k ≤ 100000000) :
    Calls Try.prog 15 #[.slice A xs.length c, .int .i64 k] w fun e w' => e = .returned (.int .i64 ((k + xs.length : Nat) : Int)) ∧
      w'.ownsRow base 9 1 (.slice A xs.length c) xs.length ((mkS k xs.length).map Value.string) ∧ w.grownBy w' (Value.slice A xs.length c).ownBlock := by
  rcases Nat.eq_zero_or_pos xs.length with hz | hz
  · rw [hz]
    rw [List.length_eq_zero_iff] at hz
    subst hz
    go_enter Try.func15, Try.ntmps15
    go_wp2_with fail
    go_loop [1, 5] (fun a i => a = .int .i64 k ∧ i = .int .i64 0) (fun _ i => 0)
    case atStart => exact ⟨rfl, rfl⟩
    case round =>
      obtain ⟨rfl, rfl⟩ := hrel
      go_wp2_with fail
      go_ret
      exact ⟨ret_int (by simp), hown, grownBy_refl _ _⟩
  · obtain ⟨g, hA⟩ : ∃ g, A = some ⟨g, 0, none⟩ := by
      rcases hown.2 with ⟨_, he⟩ | ⟨g, cap, cur, he, _⟩
      · omega
      · injection he with e1
        exact ⟨g, e1⟩
    subst hA
    go_enter Try.func15, Try.ntmps15
    go_wp2_with fail
    go_loopw [1, 5] (fun a i wr => ∃ j : Nat, j ≤ xs.length ∧ i = .int .i64 j ∧ a = .int .i64 ((k + j : Nat) : Int) ∧
      wr.ownsRow base 9 1 (.slice (some ⟨g, 0, none⟩) xs.length c) xs.length ((mkS k j ++ xs.drop j).map Value.string) ∧ w.grownBy wr (some g)) (fun _ i _ => xs.length - (intOf i).toNat)
    case atStart => exact ⟨0, Nat.zero_le _, rfl, by simp, by simpa [mkS] using hown, grownBy_refl _ _⟩
    case round =>
      rename_i wr
      obtain ⟨j, hj, rfl, rfl, hrow, hgr⟩ := hrel
      by_cases hlt : j < xs.length
      · have Hrow := Lib.hid hrow
        have Hgr := Lib.hid hgr
        clear hrow hgr hown
        go_wp2_with fail
        refine (c_markText (k + j) _ (by omega) (by omega)).mono ?_
        rintro e w1 ⟨rfl, b1⟩
        have hrow := own_below Hrow.out b1
        have hst := hrow.stored j (.string (mt (k + j)))
        have hcell : w1.cell? ⟨g, j, none⟩ = some (.string (xs.getD j ByteArray.empty)) := by
          rw [hrow.cellAt j (by omega), List.getElem?_map]
          have : (mkS k j ++ xs.drop j)[j]? = some (xs.getD j ByteArray.empty) := by
            rw [List.getElem?_append_right (by rw [mkS_len]; omega), mkS_len, Nat.sub_self]
            simp [hlt]
          rw [this]
          rfl
        have hfr := hrow.frozenAt j
        have Hst := Lib.hid hst
        have Hgr1 := Lib.hid (Hgr.out.trans (grown_below (some g) b1))
        clear hrow hst b1
        go_wp2_with fail
        go_roundw
        case rel =>
          refine ⟨j + 1, by omega, by go_num, by simp only [Value.int.injEq, true_and]; omega, ?_, Hgr1.out.trans Hst.out.2⟩
          rw [← set_mkS k xs hlt, List.map_set]
          exact Hst.out.1
        case measure => simp [intOf]; omega
      · obtain rfl : j = xs.length := by omega
        rw [List.drop_of_length_le (Nat.le_refl _), List.append_nil] at hrow
        have Hrow := Lib.hid hrow
        clear hrow hown
        go_wp2_with fail
        go_ret
        exact ⟨rfl, Hrow.out, hgr⟩
set_option maxHeartbeats 800000 in
theorem c_heldStringS (A : Option Addr) (n c : Nat) (k : Nat) (w : World) (rd : RdS w A n (mkS k n)) (hn : n ≤ 10000000) (h0 : 1 ≤ k) (h1 : k ≤ 100000000) :
    Calls Try.prog 16 #[.slice A n c, .int .i64 k] w fun e w' => e = .returned (.int .i64 ((k + n : Nat) : Int)) ∧ Below w.heap.size w w' := by
  go_enter Try.func16, Try.ntmps16
  go_wp2_with fail
  go_loopw [1, 5] (fun a i wr => ∃ j : Nat, j ≤ n ∧ i = .int .i64 j ∧ a = .int .i64 ((k + j : Nat) : Int) ∧ Below w.heap.size w wr) (fun _ i _ => n - (intOf i).toNat)
  case atStart => exact ⟨0, Nat.zero_le _, rfl, by simp, Below.refl _ _⟩
  case round =>
    rename_i wr
    obtain ⟨j, hj, rfl, rfl, hb⟩ := hrel
    by_cases hlt : j < n
    · obtain ⟨b, off, rfl, _, hc⟩ := (rd.below hb).at_ hlt
      rw [mkS_getD k hlt] at hc
      have hj0 : (0 : Int) ≤ j := by omega
      have hj1 : (j : Int) < n := by omega
      have HM := Lib.hid (fun w => c_markText (k + j) w (by omega) (by omega))
      have Hb := Lib.hid hb
      clear hb rd
      generalize mt (k + j) = y at *
      go_upto_region 4 with fail
      go_cut [18] (fun v wx => v = .bool false ∧ Below w.heap.size w wx)
      case first =>
        go_region_held3 (fun w' => w'.cell? ⟨b, off + j, none⟩ = some (.string y)) (go_keep)
          (first | (go_at_call 27; refine (HM.out _).mono ?_; rintro e w' ⟨rfl, b⟩; have hk := bkeep b))
        all_goals
          go_wp2_with fail
          go_meet
          case rel =>
            refine ⟨rfl, ?_⟩
            refine Below.next ?_ (by assumption)
            exact Below.next Hb.out (by go_grown)
      case rest =>
        obtain ⟨rfl, hb⟩ := hcut
        go_wp2_with fail
        go_roundw
        case rel => exact ⟨j + 1, by omega, by go_num, by simp only [Value.int.injEq, true_and]; omega, hb⟩
        case measure => simp [intOf]; omega
    · obtain rfl : j = n := by omega
      go_wp2_with fail
      go_ret
      exact ⟨rfl, hb⟩
end Go.Proofs.Ytppaplgeecojgaa
