/- Slices of ints that are read: the predicate, how it is kept, and the contracts of the laws' own helpers toIntS and eqIntS. -/
import Derived.Test.YtcogdogiceokdaaDoorProg
import Derived.WalkKit
import Derived.WalkSpells
import Derived.WalkLawsBesides
import Derived.BigQuiet
import Derived.Deep.QuietTactic
import Derived.Deep.OwnRows
import Derived.Lib.Hide
import Derived.Laws.BitsAllLaws
import Derived.Laws.BitsLemmas
namespace Go.Proofs.YtcogdogiceokdaaDoor
open Go.RowKit

/-- The world has only drawn. -/
def Q (w w' : World) : Prop := ∃ n, w' = w.drewN n
theorem Q.refl (w : World) : Q w w := ⟨0, rfl⟩
theorem Q.drew {w w' : World} (h : Q w w') (n : Nat) : Q w (w'.drewN n) := by
  obtain ⟨m, rfl⟩ := h
  exact ⟨m + n, by rw [World.drewN_drewN]⟩
theorem Q.trans {a b c : World} (h : Q a b) (k : Q b c) : Q a c := by
  obtain ⟨m, rfl⟩ := k
  exact h.drew m
theorem Q.quiet {P : Program} {f : FuncId} {args : Array Value} {w : World} {n : Nat} {v : Value}
    (h : Calls P f args (w.drewN n) fun e w' => e = .returned v ∧ Q (w.drewN n) w') : Calls P f args (w.drewN n) fun e w'' => e = .returned v ∧ ∃ m, w'' = w.drewN m :=
  h.mono fun _ _ ⟨he, hq⟩ => ⟨he, ((Q.refl w).drew n).trans hq⟩
theorem Q.quiet_same {P : Program} {f : FuncId} {args : Array Value} {w : World} {n : Nat} {v : Value}
    (h : Calls P f args (w.drewN n) fun e w' => e = .returned v ∧ w.drewN n = w') : Calls P f args (w.drewN n) fun e w'' => e = .returned v ∧ ∃ m, w'' = w.drewN m :=
  h.mono fun _ _ ⟨he, hq⟩ => ⟨he, n, hq.symm⟩
theorem Q.below {w w' : World} (h : Q w w') : Below w.heap.size w w' := by
  obtain ⟨n, rfl⟩ := h
  exact ⟨rfl, rfl, rfl, Nat.le_refl _, fun _ _ => rfl⟩
theorem Q.size {w w' : World} (h : Q w w') : w'.heap.size = w.heap.size := by
  obtain ⟨n, rfl⟩ := h
  rfl
theorem Q.cell {w w' : World} (h : Q w w') (a : Addr) : w'.cell? a = w.cell? a := by
  obtain ⟨n, rfl⟩ := h
  rfl

theorem ret_bool {a b : Bool} (h : a = b) : Ending.returned (.bool a) = .returned (.bool b) := by rw [h]
theorem ret_int {k : IntKind} {a b : Int} (h : a = b) : Ending.returned (.int k a) = .returned (.int k b) := by rw [h]

/-- The slice value '.slice A n _' reads as the cells xs. -/
def RdV (w : World) (A : Option Addr) (n : Nat) (xs : List Value) : Prop :=
  xs.length = n ∧ (0 < n → ∃ b off, A = some ⟨b, off, none⟩ ∧ ∀ i u, xs[i]? = some u → w.cell? ⟨b, off + i, none⟩ = some u)
/-- .. as ints. -/
def RdI (w : World) (A : Option Addr) (n : Nat) (xs : List Int) : Prop := RdV w A n (xs.map (Value.int .i64))

theorem cell_lt {w : World} {a : Addr} {u : Value} (h : w.cell? a = some u) : a.block < w.heap.size := by
  rcases Nat.lt_or_ge a.block w.heap.size with hl | hg
  · exact hl
  · unfold World.cell? at h
    rw [Array.getElem?_eq_none hg] at h
    simp at h
section
variable {w w' : World} {A : Option Addr} {n : Nat}
theorem RdV.nil : RdV w A 0 [] := ⟨rfl, fun h => absurd h (by omega)⟩
theorem RdV.len {xs : List Value} (h : RdV w A n xs) : xs.length = n := h.1
theorem RdV.at_ {xs : List Value} (h : RdV w A n xs) {k : Nat} (hk : k < n) : ∃ b off, A = some ⟨b, off, none⟩ ∧ b < w.heap.size ∧ ∀ i u, xs[i]? = some u → w.cell? ⟨b, off + i, none⟩ = some u := by
  obtain ⟨b, off, hA, hc⟩ := h.2 (by omega)
  have hl : k < xs.length := by rw [h.1]; exact hk
  exact ⟨b, off, hA, cell_lt (hc k _ (List.getElem?_eq_getElem hl)), hc⟩
theorem RdV.keep {xs : List Value} (h : RdV w A n xs) (hk : ∀ p : Addr, p.block < w.heap.size → w'.cell? p = w.cell? p) : RdV w' A n xs := by
  refine ⟨h.1, fun hn => ?_⟩
  obtain ⟨b, off, hA, hb, hc⟩ := h.at_ hn
  exact ⟨b, off, hA, fun i u hu => (hk _ hb).trans (hc i u hu)⟩
theorem RdV.below {xs : List Value} (h : RdV w A n xs) (hb : Below w.heap.size w w') : RdV w' A n xs := h.keep fun _ hp => hb.cell hp
theorem RdV.q {xs : List Value} (h : RdV w A n xs) (hq : Q w w') : RdV w' A n xs := h.keep fun p _ => hq.cell p
theorem RdI.nil : RdI w A 0 [] := RdV.nil
theorem RdI.len {xs : List Int} (h : RdI w A n xs) : xs.length = n := by simpa using RdV.len h
theorem RdI.below {xs : List Int} (h : RdI w A n xs) (hb : Below w.heap.size w w') : RdI w' A n xs := RdV.below h hb
theorem RdI.q {xs : List Int} (h : RdI w A n xs) (hq : Q w w') : RdI w' A n xs := RdV.q h hq
theorem RdI.at_ {xs : List Int} (h : RdI w A n xs) {k : Nat} (hk : k < n) : ∃ b off, A = some ⟨b, off, none⟩ ∧ b < w.heap.size ∧ w.cell? ⟨b, off + k, none⟩ = some (.int .i64 (xs.getD k 0)) := by
  obtain ⟨b, off, hA, hb, hc⟩ := RdV.at_ h hk
  refine ⟨b, off, hA, hb, ?_⟩
  have hl : k < xs.length := by rw [h.len]; exact hk
  have := hc k (.int .i64 (xs.getD k 0)) (by simp [hl])
  exact this
theorem RdI.of_row {b : Nat} {t : TypeId} {xs : List Int} (h : w.rowIs b t n fun j => .int .i64 (xs.getD j 0)) (hn : xs.length = n) : RdI w (some ⟨b, 0, none⟩) n xs := by
  refine ⟨by simpa using hn, fun _ => ⟨b, 0, rfl, fun i u hu => ?_⟩⟩
  simp only [List.getElem?_map, Option.map_eq_some_iff] at hu
  obtain ⟨x, hx, rfl⟩ := hu
  obtain ⟨hi, hx⟩ := List.getElem?_eq_some_iff.1 hx
  have := h.cell (i := i) (by omega)
  simpa [hx, hi] using this
end

/-- The numbers fit their kind. -/
def Fits (k : IntKind) (xs : List Int) : Prop := ∀ x ∈ xs, (Lit.int k x).wf = true
theorem Fits.nil {k : IntKind} : Fits k [] := fun _ h => by simp at h
theorem Fits.take {k : IntKind} {zs : List Int} {n : Nat} (h : ∀ x ∈ zs, (Lit.int k x).wf = true) : Fits k (zs.take n) := fun x hx => h x (List.mem_of_mem_take hx)
theorem RdV.of_open {w : World} {x : Addr} {len cap : Nat} {k : IntKind} {zs : List Int} (hz : zs.length = cap) (hl : len ≤ cap)
    (hc : ∀ i, i < zs.length → w.cell? (x.add i) = some (.int k (zs.getD i 0))) : RdV w (some x) len ((zs.take len).map (Value.int k)) := by
  refine ⟨by simp [hz, hl], fun hn => ?_⟩
  have h0 := hc 0 (by omega)
  obtain ⟨b, off, spot⟩ := x
  have hspot : spot = none := by simpa [Addr.add] using World.cell?_spot h0
  subst hspot
  refine ⟨b, off, rfl, fun i u hu => ?_⟩
  simp only [List.getElem?_map, Option.map_eq_some_iff] at hu
  obtain ⟨z, hzi, rfl⟩ := hu
  obtain ⟨hi, hzz⟩ := List.getElem?_eq_some_iff.1 hzi
  have hi2 : i < zs.length := by simp at hi; omega
  have h1 := hc i hi2
  have h2 : zs.getD i 0 = z := by rw [← hzz]; simp [hi2]
  rw [h2] at h1
  simp only [Addr.add] at h1
  by_cases h : i = 0
  · subst h; simpa using h1
  · simpa [h] using h1

theorem mk_ints (n : Nat) (hn : n ≤ 16777216) (W : World) :
    (Instr.makeSlice 42 (.int .i64 (n : Int)) (.int .i64 (n : Int))).run Tryd.prog W = .ok (.slice (some ⟨W.heap.size, 0, none⟩) n n) (W.alloc (.cells (madeCells #[.int .i64 0] n) 3)) :=
  run_make_row' (P := Tryd.prog) 42 3 (.int .i64 0) 8 Tryd.underlying42 (by kernel_rfl) rfl .i64 .i64 n (by omega) (by omega) W

/-- A new slice of ints. -/
def MadeI (xs : List Int) (w : World) (e : Ending) (w' : World) : Prop :=
  ∃ g, e = .returned (.slice (some ⟨g, 0, none⟩) xs.length xs.length) ∧ w.heap.size ≤ g ∧ RdI w' (some ⟨g, 0, none⟩) xs.length xs ∧ Below w.heap.size w w'

set_option maxHeartbeats 400000 in
theorem c_toIntS_row (A : Option Addr) (n c : Nat) (xs : List Int) (w : World) (hr : RdI w A n xs) (hn : n ≤ 1048576) :
    Calls Tryd.prog 48 #[.slice A n c] w fun e w' => ∃ g, e = .returned (.slice (some ⟨g, 0, none⟩) xs.length xs.length) ∧ w.heap.size ≤ g ∧ w'.rowIs g 3 xs.length (fun j => .int .i64 (xs.getD j 0)) ∧ Below w.heap.size w w' := by
  have hlen : Hid (xs.length = n) := Lib.hid hr.len
  have hmk := mk_ints n (by omega)
  go_enter Tryd.func48, Tryd.ntmps48
  go_wp2_with fail
  clear hmk
  go_loopw [4] (fun i wr => ∃ k : Nat, k ≤ n ∧ i = .int .i64 k ∧ wr.rowIs w.heap.size 3 n (fun j => .int .i64 (if j < k then xs.getD j 0 else 0)) ∧ Below w.heap.size w wr) (fun i _ => n - (intOf i).toNat)
  case atStart =>
    exact ⟨0, Nat.zero_le _, rfl, (World.rowIs_made w (.int .i64 0) n 3).congr (fun i _ => by simp), (Below.refl _ _).alloc (Nat.le_refl _) _⟩
  case round =>
    rename_i wr
    obtain ⟨k, hk, rfl, hrow, hb⟩ := hrel
    by_cases hlt : k < n
    · obtain ⟨b, off, rfl, hbl, hc⟩ := (hr.below hb).at_ hlt
      have hs := hrow.cell hlt
      have hf := hrow.frozen k
      have Hrow := Lib.hid hrow
      have Hb := Lib.hid hb
      clear hrow hb hr
      go_wp2_with fail
      go_roundw
      case rel =>
        refine ⟨k + 1, by omega, by go_num, (Hrow.out.set k (.int .i64 (xs.getD k 0))).congr (fun i _ => ?_), Hb.out.setCell (Nat.le_refl _) _⟩
        by_cases h1 : i = k
        · subst h1; simp
        · by_cases h2 : i < k
          · simp [h1, h2, show i < k + 1 from by omega]
          · simp [h1, h2, show ¬ i < k + 1 from by omega]
      case measure => simp [intOf]; omega
    · obtain rfl : k = n := by omega
      have Hrow := Lib.hid hrow
      have Hb := Lib.hid hb
      clear hrow hb
      go_wp2_with fail
      go_ret
      have hl := hlen.out
      subst hl
      exact ⟨_, rfl, Nat.le_refl _, Hrow.out.congr (fun i hi => by simp [hi]), Hb.out⟩

theorem c_toIntS (A : Option Addr) (n c : Nat) (xs : List Int) (w : World) (hr : RdI w A n xs) (hn : n ≤ 1048576) :
    Calls Tryd.prog 48 #[.slice A n c] w (MadeI xs w) :=
  (c_toIntS_row A n c xs w hr hn).mono fun _ _ ⟨g, he, hg, hrow, hb⟩ => ⟨g, he, hg, RdI.of_row hrow rfl, hb⟩

set_option maxHeartbeats 400000 in
theorem c_eqIntS_same (A A' : Option Addr) (n c c' : Nat) (xs : List Int) (w : World) (hr : RdI w A n xs) (hr' : RdI w A' n xs) (hn : n ≤ 1048576) :
    Calls Tryd.prog 52 #[.slice A n c, .slice A' n c'] w fun e w' => e = .returned (.bool true) ∧ Q w w' := by
  go_enter Tryd.func52, Tryd.ntmps52
  go_wp2_with fail
  go_loopw [5] (fun i wr => ∃ k : Nat, k ≤ n ∧ i = .int .i64 k ∧ Q w wr) (fun i _ => n - (intOf i).toNat)
  case atStart => exact ⟨0, Nat.zero_le _, rfl, Q.refl _⟩
  case round =>
    rename_i wr
    obtain ⟨k, hk, rfl, q⟩ := hrel
    by_cases hlt : k < n
    · obtain ⟨b, off, rfl, _, hc⟩ := (hr.q q).at_ hlt
      obtain ⟨b', off', rfl, _, hc'⟩ := (hr'.q q).at_ hlt
      clear hr hr'
      have h0 : (0 : Int) ≤ k := by omega
      have h1 : (k : Int) < n := by omega
      go_wp2_with fail
      go_quiet (fail)
      go_wp2_with fail
      go_roundw
      case rel => exact ⟨k + 1, by omega, by go_num, q.drew _⟩
      case measure => simp [intOf]; omega
    · go_wp2_with fail
      go_ret
      exact ⟨rfl, q⟩
end Go.Proofs.YtcogdogiceokdaaDoor
