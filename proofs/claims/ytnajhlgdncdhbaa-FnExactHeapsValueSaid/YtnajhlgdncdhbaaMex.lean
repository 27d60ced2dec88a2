/- The least number that does not occur: the contracts of both. -/
import Derived.Test.YtnajhlgdncdhbaaMem
import Derived.Handy
import Derived.BigGuardPart
namespace Go.Proofs.Ytnajhlgdncdhbaa
open Go.RowKit

/-- From k on, with fuel: the first number that does not occur. -/
def mexF (xs : List Int) : Nat → Nat → Nat
  | 0, k => k
  | f + 1, k => if (k : Int) ∈ xs then mexF xs f (k + 1) else k
def mex (xs : List Int) : Nat := mexF xs (xs.length + 1) 0
theorem pigeon : ∀ (n : Nat) (xs : List Int), (∀ i, i < n → (i : Int) ∈ xs) → n ≤ xs.length
  | 0, _, _ => Nat.zero_le _
  | n + 1, xs, h => by
    have hm := h n (by omega)
    have ih := pigeon n (xs.erase (n : Int)) (fun i hi => (List.mem_erase_of_ne (by omega)).2 (h i (by omega)))
    rw [List.length_erase_of_mem hm] at ih
    have := List.length_pos_of_mem hm
    omega
theorem mexF_spec (xs : List Int) : ∀ (f k : Nat), (∀ i, i < k → (i : Int) ∈ xs) → xs.length < k + f → (∀ i, i < mexF xs f k → (i : Int) ∈ xs) ∧ ((mexF xs f k : Nat) : Int) ∉ xs
  | 0, k, h, hl => absurd (pigeon k xs h) (by omega)
  | f + 1, k, h, hl => by
    unfold mexF
    by_cases hk : (k : Int) ∈ xs
    · rw [if_pos hk]
      exact mexF_spec xs f (k + 1) (fun i hi => by
        by_cases e : i = k
        · subst e; exact hk
        · exact h i (by omega)) (by omega)
    · rw [if_neg hk]
      exact ⟨h, hk⟩
theorem mex_all (xs : List Int) : ∀ i, i < mex xs → (i : Int) ∈ xs := (mexF_spec xs _ 0 (fun i hi => absurd hi (by omega)) (by omega)).1
theorem mex_not (xs : List Int) : ((mex xs : Nat) : Int) ∉ xs := (mexF_spec xs _ 0 (fun i hi => absurd hi (by omega)) (by omega)).2
theorem mex_eq {xs : List Int} {k : Nat} (h : ∀ i, i < k → (i : Int) ∈ xs) (hk : (k : Int) ∉ xs) : mex xs = k := by
  rcases Nat.lt_trichotomy (mex xs) k with h1 | h1 | h1
  · exact absurd (h _ h1) (mex_not xs)
  · exact h1
  · exact absurd (mex_all xs k h1) hk
theorem mex_le (xs : List Int) : mex xs ≤ xs.length := pigeon _ _ (mex_all xs)
def mexV (xs : List Int) : Int := if 300 < xs.length then -1 else if xs.any (· < 0) then -1 else (mex xs : Nat)

set_option maxHeartbeats 800000 in
theorem c_l1Has (A : Option Addr) (c : Nat) (xs : List Int) (n : Int) (w : World) (rd : RdI w A xs.length xs) (hl : xs.length ≤ 1000000000) :
    Calls Try.prog 48 #[.slice A xs.length c, .int .i64 n] w fun e w' => e = .returned (.bool (decide (n ∈ xs))) ∧ w = w' := by
  obtain ⟨r, hr⟩ : ∃ r, Hid (decide (n ∈ xs) = r) := ⟨_, Lib.hid rfl⟩
  rw [hr.out]
  go_enter Try.func48, Try.ntmps48
  go_wp2_with fail
  go_loop [5] (fun i => ∃ k : Nat, k ≤ xs.length ∧ i = .int .i64 k ∧ Hid (r = decide (n ∈ xs.drop k))) (fun i => xs.length - (intOf i).toNat)
  case atStart => exact ⟨0, Nat.zero_le _, rfl, Lib.hid hr.out.symm⟩
  case round =>
    obtain ⟨k, hk, rfl, hrem⟩ := hrel
    by_cases hlt : k < xs.length
    · obtain ⟨b, off, rfl, _, hcx⟩ := rd.at_ hlt
      have hd : Hid (xs.drop k = xs.getD k 0 :: xs.drop (k + 1)) := Lib.hid (by rw [List.drop_eq_getElem_cons hlt]; simp [hlt])
      generalize xs.getD k 0 = y at *
      by_cases he : y = n
      · have he' : (y == n) = true := by simp [he]
        have hres : Hid (true = r) := Lib.hid (by rw [hrem.out, hd.out, he]; simp)
        clear he
        go_wp2_with fail
        go_ret
        exact ⟨ret_bool hres.out, rfl⟩
      · have he' : (y == n) = false := by simp [he]
        have hrem' : Hid (r = decide (n ∈ xs.drop (k + 1))) := Lib.hid (by rw [hrem.out, hd.out]; simp [Ne.symm he])
        clear he
        go_wp2_with fail
        go_round
        case rel => exact ⟨k + 1, by omega, by go_num, hrem'⟩
        case measure => simp [intOf]; omega
    · have hres : Hid (false = r) := Lib.hid (by rw [hrem.out, List.drop_of_length_le (by omega)]; simp)
      go_wp2_with fail
      go_ret
      exact ⟨ret_bool hres.out, rfl⟩

set_option maxHeartbeats 800000 in
theorem s_Mex (A : Option Addr) (c : Nat) (xs : List Int) (w : World) (rd : RdI w A xs.length xs) :
    Calls Try.prog 22 #[.slice A xs.length c] w fun e w' => e = .returned (.int .i64 (mexV xs)) ∧ w = w' := by
  obtain ⟨r, hr⟩ : ∃ r, Hid (mexV xs = r) := ⟨_, Lib.hid rfl⟩
  rw [hr.out]
  by_cases hn : xs.length ≤ 300
  · have hany : Hid (r = if xs.any (· < 0) then (-1 : Int) else ((mex xs : Nat) : Int)) := Lib.hid (by rw [← hr.out]; unfold mexV; rw [if_neg (by omega)])
    have hml := mex_le xs
    obtain ⟨M, hM⟩ : ∃ M, Hid (mex xs = M) := ⟨_, Lib.hid rfl⟩
    rw [hM.out] at hml
    go_enter Try.func22, Try.ntmps22
    go_wp2_with fail
    go_loop [3] (fun i => ∃ k : Nat, k ≤ xs.length ∧ i = .int .i64 k ∧ Hid (xs.any (· < 0) = (xs.drop k).any (· < 0))) (fun i => xs.length - (intOf i).toNat)
    case atStart => exact ⟨0, Nat.zero_le _, rfl, Lib.hid rfl⟩
    case round =>
      obtain ⟨k, hk, rfl, hrem⟩ := hrel
      by_cases hlt : k < xs.length
      · obtain ⟨b, off, rfl, _, hcx⟩ := rd.at_ hlt
        have hd : Hid (xs.drop k = xs.getD k 0 :: xs.drop (k + 1)) := Lib.hid (by rw [List.drop_eq_getElem_cons hlt]; simp [hlt])
        generalize xs.getD k 0 = y at *
        by_cases he : y < 0
        · have hres : Hid (-1 = r) := Lib.hid (by rw [hany.out, hrem.out, hd.out]; simp [he])
          go_wp2_with fail
          go_ret
          exact ⟨ret_int hres.out, rfl⟩
        · have hrem' : Hid (xs.any (· < 0) = (xs.drop (k + 1)).any (· < 0)) := Lib.hid (by rw [hrem.out, hd.out]; simp [he])
          go_wp2_with fail
          go_round
          case rel => exact ⟨k + 1, by omega, by go_num, hrem'⟩
          case measure => simp [intOf]; omega
      · have hres : Hid (r = (M : Int)) := Lib.hid (by rw [hany.out, hrem.out, List.drop_of_length_le (by omega), hM.out]; simp)
        clear hrem hany
        go_wp2_with fail
        go_loop [4] (fun i => ∃ k : Nat, k ≤ M ∧ i = .int .i64 k) (fun i => M - (intOf i).toNat)
        case atStart => exact ⟨0, Nat.zero_le _, rfl⟩
        case round =>
          obtain ⟨k, hk, rfl⟩ := hrel
          by_cases hkM : k < M
          · have hd : Hid (decide ((k : Int) ∈ xs) = true) := Lib.hid (by rw [← hM.out] at hkM; simpa using mex_all xs k hkM)
            go_wp2_with fail
            refine (c_l1Has A c xs k _ rd (by omega)).mono ?_
            rintro e w' ⟨rfl, rfl⟩
            rw [hd.out]
            go_wp2_with fail
            go_round
            case rel => exact ⟨k + 1, by omega, by go_num⟩
            case measure => simp [intOf]; omega
          · obtain rfl : k = M := by omega
            have hd : Hid (decide ((k : Int) ∈ xs) = false) := Lib.hid (by have := mex_not xs; rw [hM.out] at this; simpa using this)
            go_wp2_with fail
            refine (c_l1Has A c xs k _ rd (by omega)).mono ?_
            rintro e w' ⟨rfl, rfl⟩
            rw [hd.out]
            go_wp2_with fail
            go_ret
            exact ⟨ret_int hres.out.symm, rfl⟩
  · have hres : Hid (-1 = r) := Lib.hid (by rw [← hr.out]; unfold mexV; rw [if_pos (by omega)])
    go_enter Try.func22, Try.ntmps22
    go_wp2_with fail
    go_ret
    exact ⟨ret_int hres.out, rfl⟩

theorem mk_bools (n : Nat) (hn : n ≤ 16777216) (W : World) :
    (Instr.makeSlice 68 (.int .i64 (n : Int)) (.int .i64 (n : Int))).run Try.prog W = .ok (.slice (some ⟨W.heap.size, 0, none⟩) n n) (W.alloc (.cells (madeCells #[.bool false] n) 4)) :=
  run_make_row' (P := Try.prog) 68 4 (.bool false) 1 Try.underlying68 (by kernel_rfl) rfl .i64 .i64 n (by omega) (by omega) W
set_option maxHeartbeats 1600000 in
theorem c_Mex (A : Option Addr) (c : Nat) (xs : List Int) (w : World) (rd : RdI w A xs.length xs) :
    Calls Try.prog 23 #[.slice A xs.length c] w fun e w' => e = .returned (.int .i64 (mexV xs)) ∧ Below w.heap.size w w' := by
  obtain ⟨r, hr⟩ : ∃ r, Hid (mexV xs = r) := ⟨_, Lib.hid rfl⟩
  rw [hr.out]
  by_cases hn : xs.length ≤ 300
  · have hany : Hid (r = if xs.any (· < 0) then (-1 : Int) else ((mex xs : Nat) : Int)) := Lib.hid (by rw [← hr.out]; unfold mexV; rw [if_neg (by omega)])
    have hml := mex_le xs
    obtain ⟨M, hM⟩ : ∃ M, Hid (mex xs = M) := ⟨_, Lib.hid rfl⟩
    rw [hM.out] at hml
    have hmk := mk_bools (xs.length + 1) (by omega)
    have ec : ((xs.length + 1 : Nat) : Int) = (xs.length : Int) + 1 := by omega
    rw [ec] at hmk
    clear ec
    go_enter Try.func23, Try.ntmps23
    go_wp2_with fail
    clear hmk
    go_loopw [16] (fun i wr => ∃ k : Nat, k ≤ xs.length ∧ i = .int .i64 k ∧ Hid (xs.any (· < 0) = (xs.drop k).any (· < 0)) ∧ Hid (∀ x ∈ xs.take k, 0 ≤ x) ∧
      wr.rowIs w.heap.size 4 (xs.length + 1) (fun j => .bool (decide ((j : Int) ∈ xs.take k))) ∧ Below w.heap.size w wr) (fun i _ => xs.length - (intOf i).toNat)
    case atStart => exact ⟨0, Nat.zero_le _, rfl, Lib.hid rfl, Lib.hid (by simp), (World.rowIs_made w (.bool false) (xs.length + 1) 4).congr (fun i _ => by simp), (Below.refl _ _).alloc (Nat.le_refl _) _⟩
    case round =>
      rename_i wr
      obtain ⟨k, hk, rfl, hrem, hpos, hrow, hb⟩ := hrel
      by_cases hlt : k < xs.length
      · obtain ⟨b, off, rfl, hbl, hcx⟩ := (rd.below hb).at_ hlt
        have hd : Hid (xs.drop k = xs.getD k 0 :: xs.drop (k + 1)) := Lib.hid (by rw [List.drop_eq_getElem_cons hlt]; simp [hlt])
        have ht : Hid (xs.take (k + 1) = xs.take k ++ [xs.getD k 0]) := Lib.hid (by rw [List.take_succ_eq_append_getElem hlt]; simp [hlt])
        generalize xs.getD k 0 = y at *
        by_cases he : y < 0
        · have hres : Hid (-1 = r) := Lib.hid (by rw [hany.out, hrem.out, hd.out]; simp [he])
          have Hb := Lib.hid hb
          clear hrow hb rd
          go_wp2_with fail
          go_ret
          exact ⟨ret_int hres.out, Hb.out⟩
        · have hrem' : Hid (xs.any (· < 0) = (xs.drop (k + 1)).any (· < 0)) := Lib.hid (by rw [hrem.out, hd.out]; simp [he])
          have hpos' : Hid (∀ x ∈ xs.take (k + 1), 0 ≤ x) := Lib.hid (by
            rw [ht.out]; intro x hx
            rcases List.mem_append.1 hx with h | h
            · exact hpos.out x h
            · simp at h; omega)
          have he0 : 0 ≤ y := by omega
          clear he
          obtain ⟨m, rfl⟩ := Int.eq_ofNat_of_zero_le he0
          by_cases hmn : m < xs.length + 1
          · have hs := hrow.cell hmn
            have hf := hrow.frozen m
            have Hrow := Lib.hid hrow
            have Hb := Lib.hid hb
            clear hrow hb rd
            go_wp2_with fail
            go_roundw
            case rel =>
              refine ⟨k + 1, by omega, by go_num, hrem', hpos', (Hrow.out.set m (.bool true)).congr (fun i _ => ?_), Hb.out.setCell (Nat.le_refl _) _⟩
              rw [ht.out]
              by_cases h1 : i = m
              · subst h1; simp
              · simp [h1, List.mem_append, show ¬ (i : Int) = (m : Int) from by omega]
            case measure => simp [intOf]; omega
          · have Hrow := Lib.hid hrow
            have Hb := Lib.hid hb
            clear hrow hb rd
            go_wp2_with fail
            go_roundw
            case rel =>
              refine ⟨k + 1, by omega, by go_num, hrem', hpos', Hrow.out.congr (fun i hi => ?_), Hb.out⟩
              rw [ht.out]
              simp [List.mem_append, show ¬ (i : Int) = (m : Int) from by omega]
            case measure => simp [intOf]; omega
      · obtain rfl : k = xs.length := by omega
        have hres : Hid (r = (M : Int)) := Lib.hid (by rw [hany.out, hrem.out, List.drop_of_length_le (by omega), hM.out]; simp)
        have hrow' : wr.rowIs w.heap.size 4 (xs.length + 1) (fun j => .bool (decide ((j : Int) ∈ xs))) := hrow.congr (fun i _ => by simp)
        clear hrow hrem hany hpos rd
        go_wp2_with fail
        go_loop [6] (fun i => ∃ k : Nat, k ≤ M ∧ i = .int .i64 k) (fun i => M - (intOf i).toNat)
        case atStart => exact ⟨0, Nat.zero_le _, rfl⟩
        case round =>
          obtain ⟨k, hk, rfl⟩ := hrel
          have hcell := hrow'.cell (i := k) (by omega)
          by_cases hkM : k < M
          · have hd : decide ((k : Int) ∈ xs) = true := by rw [← hM.out] at hkM; simpa using mex_all xs k hkM
            rw [hd] at hcell
            have Hrow := Lib.hid hrow'
            have Hb := Lib.hid hb
            clear hd hrow' hb
            have hkl : (k : Int) < xs.length := by omega
            go_wp2_with fail
            go_round
            case rel => exact ⟨k + 1, by omega, by go_num⟩
            case measure => simp [intOf]; omega
          · obtain rfl : k = M := by omega
            have hd : decide ((k : Int) ∈ xs) = false := by have := mex_not xs; rw [hM.out] at this; simpa using this
            rw [hd] at hcell
            have Hrow := Lib.hid hrow'
            have Hb := Lib.hid hb
            clear hd hrow' hb
            by_cases hkl : k < xs.length
            · go_wp2_with fail
              go_ret
              exact ⟨ret_int hres.out.symm, Hb.out⟩
            · go_wp2_with fail
              go_ret
              exact ⟨ret_int hres.out.symm, Hb.out⟩
  · have hres : Hid (-1 = r) := Lib.hid (by rw [← hr.out]; unfold mexV; rw [if_pos (by omega)])
    go_enter Try.func23, Try.ntmps23
    go_wp2_with fail
    go_ret
    exact ⟨ret_int hres.out, Below.refl _ _⟩
end Go.Proofs.Ytnajhlgdncdhbaa
