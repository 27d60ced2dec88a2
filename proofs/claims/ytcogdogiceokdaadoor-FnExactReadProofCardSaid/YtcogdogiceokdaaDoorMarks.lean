/- The laws' own helpers markIntS and heldIntS; rows of ints of the call's own. -/
import Derived.Test.YtcogdogiceokdaaDoorApp
import Derived.IntWalk
namespace Go.Proofs.YtcogdogiceokdaaDoor
open Go.RowKit

/-- Rising numbers from k on. -/
def mks (k : Int) (n : Nat) : List Int := (List.range n).map fun (j : Nat) => k + (j : Int)
theorem mks_len (k : Int) (n : Nat) : (mks k n).length = n := by simp [mks]
theorem mks_succ (k : Int) (n : Nat) : mks k (n + 1) = mks k n ++ [k + (n : Int)] := by simp [mks, List.range_succ]
theorem mks_getD (k : Int) {n j : Nat} (h : j < n) : (mks k n).getD j 0 = k + (j : Int) := by simp [mks, h]
theorem set_mks (k : Int) (xs : List Int) {i : Nat} (h : i < xs.length) : (mks k i ++ xs.drop i).set i (k + (i : Int)) = mks k (i + 1) ++ xs.drop (i + 1) := by
  rw [List.set_append_right i _ (by rw [mks_len]; omega), mks_len, Nat.sub_self, mks_succ, List.drop_eq_getElem_cons h, List.set_cons_zero, List.append_assoc]
  rfl

/-- A slice of the call's own, with these ints. -/
abbrev OwnI (w : World) (base : Nat) (A : Option Addr) (c : Nat) (xs : List Int) : Prop := w.ownsRow base 3 1 (.slice A xs.length c) xs.length (xs.map (Value.int .i64))
theorem OwnI.rd {w : World} {base : Nat} {A : Option Addr} {c : Nat} {xs : List Int} (h : OwnI w base A c xs) : RdI w A xs.length xs := RdV.of_own h
theorem OwnI.nil (w : World) (base : Nat) : OwnI w base none 0 [] := ⟨rfl, .inl ⟨rfl, rfl⟩⟩
theorem OwnI.of_rowIs {w : World} {base g : Nat} {xs : List Int} (h : w.rowIs g 3 xs.length (fun j => .int .i64 (xs.getD j 0))) (hg : base ≤ g) (hl : xs.length ≤ maxLen) : OwnI w base (some ⟨g, 0, none⟩) xs.length xs := by
  obtain ⟨c, hb, hn, hc⟩ := h
  refine ⟨by simp, .inr ⟨g, xs.length, c, rfl, hg, hb, Nat.le_refl _, hl, by simpa using hn, ?_⟩⟩
  rw [Nat.mul_one]
  apply List.ext_getElem (by simp [hn])
  intro i h1 h2
  simp at h2
  have := hc i h2
  rw [Array.getElem?_eq_getElem (by omega)] at this
  have e := Option.some.inj this
  simpa [h2] using e
/-- toIntS: a new slice of the call's own. -/
theorem c_toIntS_own (A : Option Addr) (n c : Nat) (xs : List Int) (w : World) (hr : RdI w A n xs) (hn : n ≤ 1048576) :
    Calls Tryd.prog 48 #[.slice A n c] w fun e w' => ∃ g, e = .returned (.slice (some ⟨g, 0, none⟩) xs.length xs.length) ∧ OwnI w' w.heap.size (some ⟨g, 0, none⟩) xs.length xs ∧ Below w.heap.size w w' :=
  (c_toIntS_row A n c xs w hr hn).mono fun _ _ ⟨g, he, hg, hrow, hb⟩ => ⟨g, he, OwnI.of_rowIs hrow hg (by have := hr.len; unfold maxLen; omega), hb⟩
theorem OwnI.apart {w w0 w' : World} {base base' : Nat} {A A' : Option Addr} {c c' : Nat} {xs : List Int} {m : Nat} {us : List Value} (h : OwnI w base A c xs) (ho : w0.ownsRow base' 3 1 (.slice A' m c') m us) (hlt : w0.heap.size ≤ base) (hg : w.grownBy w' (Value.slice A' m c').ownBlock) :
    OwnI w' base A c xs := by
  refine own_kept h hg ?_
  cases e : (Value.slice A xs.length c).ownBlock with
  | none => exact .inl rfl
  | some k =>
    right
    intro e2
    have h1 := (h.lt k e).1
    have h2 := (ho.lt k e2.symm).2
    omega
/-- A new slice of ints and a bool. -/
def ListP (w : World) (m : List Int × Bool) (e : Ending) (w' : World) : Prop :=
  ∃ A c, e = .returned (.tuple #[.slice A m.1.length c, .bool m.2]) ∧ OwnI w' w.heap.size A c m.1 ∧ Below w.heap.size w w'
theorem ListP.none {w w' : World} {m : List Int × Bool} {e : Ending} (h : m = ([], false)) (he : e = .returned (.tuple #[.slice none 0 0, .bool false])) (hb : Below w.heap.size w w') : ListP w m e w' := by
  subst h; exact ⟨_, _, he, OwnI.nil _ _, hb⟩
theorem results_tmp2 {fn : Func} {t u : Tmp} (h : fn.results = #[.tmp t, .tmp u]) (tmps : Array Value) (P : Program) (w : World) : (results fn tmps).run P w = .ok (.tuple #[tmps.getD t undef, tmps.getD u undef]) w := by
  simp [results, h]
theorem hI_int : (Tryd.prog.info? 3).map (fun i => (i.zero, i.size, i.bytes)) = some (some (.int .i64 0), 1, 8) := by kernel_rfl
theorem grownBy_refl (w : World) (row : Option Nat) : w.grownBy w row := ⟨rfl, rfl, rfl, Nat.le_refl _, fun _ _ _ => rfl⟩

/-- A slice in older memory is read as before where a row of the call's own was written. -/
theorem RdI.grown {w w' : World} {base : Nat} {A : Option Addr} {n : Nat} {xs : List Int} {v : Value} {m : Nat} {us : List Value} (h : RdI w A n xs) (ho : w.ownsRow base 3 1 v m us) (hA : n = 0 ∨ ∀ b o, A = some ⟨b, o, none⟩ → b < base)
    (hg : w.grownBy w' v.ownBlock) : RdI w' A n xs := by
  refine ⟨h.1, fun hn => ?_⟩
  obtain ⟨b, off, e, hb, hc⟩ := RdV.at_ h hn
  subst e
  refine ⟨b, off, rfl, fun i u hu => ?_⟩
  rw [World.cell?_of_block (hg.block b hb (fun e => by
    have h1 := (ho.lt b e.symm).1
    rcases hA with h0 | h0
    · omega
    · have := h0 b off rfl; omega))]
  exact hc i u hu
/-- What is owned lies in the world. -/
theorem OwnI.old {w : World} {base base' : Nat} {A : Option Addr} {c : Nat} {xs : List Int} (h : OwnI w base A c xs) (hb : w.heap.size ≤ base') : xs.length = 0 ∨ ∀ b o, A = some ⟨b, o, none⟩ → b < base' := by
  right
  rintro b o rfl
  exact Nat.lt_of_lt_of_le (h.lt b rfl).2 hb

set_option maxHeartbeats 800000 in
theorem c_markIntS (A : Option Addr) (c base : Nat) (xs : List Int) (k : Int) (w : World) (hown : OwnI w base A c xs) (hn : xs.length ≤ 10000000) (h0 : 0 ≤ k) (h1 : k ≤ 1000000000) :
    Calls Tryd.prog 45 #[.slice A xs.length c, .int .i64 k] w fun e w' => e = .returned (.int .i64 (k + (xs.length : Int))) ∧
      w'.ownsRow base 3 1 (.slice A xs.length c) xs.length ((mks k xs.length).map (Value.int .i64)) ∧ w.grownBy w' (Value.slice A xs.length c).ownBlock := by
  rcases Nat.eq_zero_or_pos xs.length with hz | hz
  · rw [hz]
    rw [List.length_eq_zero_iff] at hz
    subst hz
    go_enter Tryd.func45, Tryd.ntmps45
    go_wp2_with fail
    go_loop [1, 5] (fun a i => a = .int .i64 k ∧ i = .int .i64 0) (fun _ i => 0)
    case atStart => exact ⟨rfl, rfl⟩
    case round =>
      obtain ⟨rfl, rfl⟩ := hrel
      go_wp2_with fail
      go_ret
      exact ⟨ret_int (by simp), hown, grownBy_refl _ _⟩
  · obtain ⟨g, hA⟩ : ∃ g, A = some ⟨g, 0, none⟩ := by
      rcases hown.2 with ⟨_, he⟩ | ⟨g, cap, cur, he, _⟩
      · omega
      · injection he with e1
        exact ⟨g, e1⟩
    subst hA
    go_enter Tryd.func45, Tryd.ntmps45
    go_wp2_with fail
    go_loopw [1, 5] (fun a i wr => ∃ j : Nat, j ≤ xs.length ∧ i = .int .i64 j ∧ a = .int .i64 (k + (j : Int)) ∧
      wr.ownsRow base 3 1 (.slice (some ⟨g, 0, none⟩) xs.length c) xs.length ((mks k j ++ xs.drop j).map (Value.int .i64)) ∧ w.grownBy wr (some g)) (fun _ i _ => xs.length - (intOf i).toNat)
    case atStart => exact ⟨0, Nat.zero_le _, rfl, by simp, by simpa [mks] using hown, grownBy_refl _ _⟩
    case round =>
      rename_i wr
      obtain ⟨j, hj, rfl, rfl, hrow, hgr⟩ := hrel
      by_cases hlt : j < xs.length
      · have hst := hrow.stored j (.int .i64 (k + (j : Int)))
        have hcell : wr.cell? ⟨g, j, none⟩ = some (.int .i64 (xs.getD j 0)) := by
          rw [hrow.cellAt j (by omega), List.getElem?_map]
          have : (mks k j ++ xs.drop j)[j]? = some (xs.getD j 0) := by
            rw [List.getElem?_append_right (by rw [mks_len]; omega), mks_len, Nat.sub_self]
            simp [hlt]
          rw [this]
          rfl
        have hfr := hrow.frozenAt j
        have Hrow := Lib.hid hrow
        have Hgr := Lib.hid hgr
        have Hst := Lib.hid hst
        clear hrow hgr hst hown
        go_wp2_with fail
        go_roundw
        case rel =>
          refine ⟨j + 1, by omega, by go_num, by simp only [Value.int.injEq, true_and]; omega, ?_, Hgr.out.trans Hst.out.2⟩
          rw [← set_mks k xs hlt, List.map_set]
          exact Hst.out.1
        case measure => simp [intOf]; omega
      · obtain rfl : j = xs.length := by omega
        rw [List.drop_of_length_le (Nat.le_refl _), List.append_nil] at hrow
        have Hrow := Lib.hid hrow
        clear hrow hown
        go_wp2_with fail
        go_ret
        exact ⟨rfl, Hrow.out, hgr⟩
set_option maxHeartbeats 800000 in
theorem c_heldIntS (A : Option Addr) (n c : Nat) (k : Int) (w : World) (rd : RdI w A n (mks k n)) (hn : n ≤ 10000000) (h0 : 0 ≤ k) (h1 : k ≤ 1000000000) :
    Calls Tryd.prog 46 #[.slice A n c, .int .i64 k] w fun e w' => e = .returned (.int .i64 (k + (n : Int))) ∧ w = w' := by
  go_enter Tryd.func46, Tryd.ntmps46
  go_wp2_with fail
  go_loop [1, 5] (fun a i => ∃ j : Nat, j ≤ n ∧ i = .int .i64 j ∧ a = .int .i64 (k + (j : Int))) (fun _ i => n - (intOf i).toNat)
  case atStart => exact ⟨0, Nat.zero_le _, rfl, by simp⟩
  case round =>
    obtain ⟨j, hj, rfl, rfl⟩ := hrel
    by_cases hlt : j < n
    · obtain ⟨b, off, rfl, _, hc⟩ := rd.at_ hlt
      rw [mks_getD k hlt] at hc
      go_wp2_with fail
      go_round
      case rel => exact ⟨j + 1, by omega, by go_num, by simp only [Value.int.injEq, true_and]; omega⟩
      case measure => simp [intOf]; omega
    · obtain rfl : j = n := by omega
      go_wp2_with fail
      go_ret
      exact ⟨rfl, rfl⟩
end Go.Proofs.YtcogdogiceokdaaDoor
