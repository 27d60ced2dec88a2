/- The program's positions behind a move: slices.Grow, slices.Concat, slices.Sort, replaced. -/
import Derived.Test.YtoeacocijcammaaLlI
import Derived.Test.YtoeacocijcammaaLlN
import Derived.Lib.AppendZeros
namespace Go.Proofs.Ytoeacocijcammaa
open Go.RowKit

theorem hI_int3 : ∃ i, Try.prog.info? 3 = some i ∧ i.zero = some (.int .i64 0) ∧ i.size = 1 ∧ i.bytes = 8 := by
  obtain ⟨i, hi, h1, h2, h3⟩ := info_parts hI_int
  exact ⟨i, hi, h1, h2, h3⟩
theorem zeroCells_size (n : Nat) : (Builtin.zeroCells (Value.int .i64 0).cells n).size = n := by simp [Builtin.zeroCells, Value.cells]
/-- slices.Grow of nil. -/
theorem c_Grow0 (w : World) : Calls Try.prog 100 #[.slice none 0 0, .int .i64 0] w fun e w' => e = .returned (.slice none 0 0) ∧ w = w' := by
  go_enter Try.func100, Try.ntmps100
  go_wp2_with fail
  go_ret
  exact ⟨rfl, rfl⟩
theorem c_Grow (n : Nat) (w : World) (h0 : 0 < n) (hn : n ≤ 10000000) : Calls Try.prog 100 #[.slice none 0 0, .int .i64 n] w fun e w' => ∃ g c, e = .returned (.slice (some ⟨g, 0, none⟩) 0 c) ∧ w'.ownsRow w.heap.size 3 1 (.slice (some ⟨g, 0, none⟩) 0 c) 0 [] ∧ Below w.heap.size w w' := by
  obtain ⟨i, hi, hz, hs, hb⟩ := hI_int3
  have hrz : ∀ ty, (Builtin.append_ #[22, 3] ty #[.slice none 0 0, .int .i64 (n : Int)]).run Try.prog w = .ok (.slice (some ⟨w.heap.size, 0, none⟩) n (grownCap w n 0 3)) (w.drew.alloc (.cells (Builtin.zeroCells (Value.int .i64 0).cells n ++ Builtin.zeroCells (Value.int .i64 0).cells (grownCap w n 0 3 - n)) 3)) := fun ty =>
    Lib.run_append_nil_zeros w 22 3 ty 3 i (.int .i64 0) .i64 .i64 Try.underlying22 Try.underlying3 hi hz n h0 (by omega) (by omega) (by rw [hb]; omega)
  have hGn : n ≤ grownCap w n 0 3 := grownCap_ge w _ _ _
  have hG63 : grownCap w n 0 3 ≤ maxLen := grownCap_le_maxLen w n 0 3 (by unfold maxLen; omega)
  obtain ⟨G, hG⟩ : ∃ G, grownCap w n 0 3 = G := ⟨_, rfl⟩
  rw [hG] at hrz hGn hG63
  obtain ⟨cs, hcs⟩ : ∃ cs, Builtin.zeroCells (Value.int .i64 0).cells n ++ Builtin.zeroCells (Value.int .i64 0).cells (G - n) = cs := ⟨_, rfl⟩
  have hsz : cs.size = G := by rw [← hcs, Array.size_append, zeroCells_size, zeroCells_size]; omega
  rw [hcs] at hrz
  have fin : Hid ((w.alloc (.cells cs 3)).drew.ownsRow w.heap.size 3 1 (.slice (some ⟨w.heap.size, 0, none⟩) 0 G) 0 []) := Lib.hid (by
    refine ⟨by simp, .inr ⟨w.heap.size, G, cs, rfl, Nat.le_refl _, heap_alloc_new w _, Nat.zero_le _, hG63, by rw [hsz, Nat.mul_one], by simp⟩⟩)
  have HG63 := Lib.hid hG63
  clear hcs hsz hG hi hz hs hb hG63
  have k0 : (0 : Int) < n := by omega
  go_enter Try.func100, Try.ntmps100
  go_wp2_with (at_builtin; refine Lib.wpList_append_run _ rfl _ _ _ _ rfl _ _ rfl rfl _ _ (hrz _) ?_)
  go_ret
  exact ⟨_, _, rfl, fin.out, below_heap ((Below.refl _ _).alloc (Nat.le_refl _) _) ((Q.refl _).drew1)⟩
/-- append of a slice at any address to what the call owns, be it nil. -/
theorem appV {P : Program} {ops : Array Oper} {rest : List Oper} {o : Oper} {a : Act} {Q : Exit → Act → World → Prop} (w : World) (T E : TypeId) (z : Value) (bytes : Nat)
    (hT : P.underlying T = some (.slice E)) (hI : (P.info? E).map (fun i => (i.zero, i.size, i.bytes)) = some (some z, 1, bytes)) (hz : z.cells.size = 1) (hgd : o.guard = none) (s x : Operand)
    (ho : o.op = .call { callee := .builtin .append, args := #[s, x], argTypes := #[T, T] })
    (base : Nat) (A : Option Addr) (n c : Nat) (xs : List Value) (hs : a.eval s = .slice A n c) (hown : w.ownsRow base E 1 (.slice A n c) n xs)
    (ad : Addr) (m d : Nat) (us : List Value) (hx : a.eval x = .slice (some ad) m d) (hus : us.length = m) (hcells : ∀ j u, us[j]? = some u → w.cell? (ad.add j) = some u) (hone : ∀ u ∈ us, u.oneCell' = true)
    (hlen : n + m ≤ 100000000) (hby : bytes ≤ 1000) (hbase : base ≤ w.heap.size)
    (h : ∀ A' cap w', w'.ownsRow base E 1 (.slice A' (n + m) cap) (n + m) (xs ++ us) → w.grownBy w' (Value.slice A n c).ownBlock → wpList P ops Q rest (a.put o.dst (.slice A' (n + m) cap)) w') :
    wpList P ops Q (o :: rest) a w := by
  obtain ⟨i, hi, hz0, hz1, hz2⟩ := info_parts hI
  have hbb : (n + m) * bytes ≤ 140737488355328 := by
    have : (n + m) * bytes ≤ 100000000 * 1000 := Nat.mul_le_mul hlen hby
    omega
  refine wpList_append_own_at w hgd s x T ho base E i z 1 bytes hT hi hz0 hz1 hz2 hz (by decide) _ n xs hs hown ad m d us hx (by omega) hcells hone (by unfold maxLen; omega) hbb hbase ?_
  intro v' w' h2 h3 h4 h5
  have key : ∃ A' cap, v' = .slice A' (n + m) cap := by
    rcases h2.2 with ⟨he, h0⟩ | ⟨g, cap, cur, he, r⟩
    · exact ⟨none, 0, by rw [he, h0]⟩
    · exact ⟨_, cap, he⟩
  obtain ⟨A', cap, rfl⟩ := key
  exact h A' cap w' h2 h3
theorem flat_len : ∀ (ms : List (List Int)), ms.flatten.length = (ms.map List.length).sum
  | [] => rfl
  | m :: l => by simp [flat_len l]
theorem flat_take_le (ms : List (List Int)) (k : Nat) : (ms.take k).flatten.length ≤ ms.flatten.length := by
  have : ms.flatten = (ms.take k).flatten ++ (ms.drop k).flatten := by rw [← List.flatten_append, List.take_append_drop]
  rw [this, List.length_append]; omega
theorem flat_take_succ {ms : List (List Int)} {k : Nat} (h : k < ms.length) : (ms.take (k + 1)).flatten = (ms.take k).flatten ++ ms.getD k [] := by
  rw [List.take_succ_eq_append_getElem h, List.flatten_append]; simp [h]
set_option maxRecDepth 100000 in
set_option maxHeartbeats 1600000 in
theorem c_Concat (g n c : Nat) (rs : List Row) (w : World) (hr : RdL w (some ⟨g, 0, none⟩) n rs) (hA : ∀ r ∈ rs, r.A ≠ none) (hn : n ≤ 1000) (ht : (nums rs).flatten.length ≤ 1000000) :
    Calls Try.prog 87 #[.slice (some ⟨g, 0, none⟩) n c] w fun e w' => ∃ A c', e = .returned (.slice A (nums rs).flatten.length c') ∧ OwnI w' w.heap.size A c' (nums rs).flatten ∧ Below w.heap.size w w' := by
  obtain ⟨ms, hms⟩ : ∃ ms, Hid (nums rs = ms) := ⟨_, Lib.hid rfl⟩
  have hml : Hid (ms.length = n) := Lib.hid (by rw [← hms.out]; simpa using hr.len)
  rw [hms.out] at ht ⊢
  have HR := Lib.hid hr
  have HA := Lib.hid hA
  clear hr hA
  go_enter Try.func87, Try.ntmps87
  go_wp2_with fail
  go_loop [3, 11] (fun x i => ∃ k : Nat, k ≤ n ∧ i = .int .i64 k ∧ x = .int .i64 (((ms.take k).flatten.length : Nat) : Int)) (fun _ i => n - (intOf i).toNat)
  case atStart => exact ⟨0, Nat.zero_le _, rfl, by simp⟩
  case round =>
    obtain ⟨k, hk, rfl, rfl⟩ := hrel
    have hle := flat_take_le ms k
    by_cases hlt : k < n
    · obtain ⟨_, _, e, _, r, _, hrm, hrx, hrr, hrc⟩ := HR.out.at_ hlt
      cases e
      rw [Nat.zero_add] at hrc
      have hsn := Lib.hid (flat_take_succ (ms := ms) (k := k) (by rw [hml.out]; exact hlt))
      have hle2 := flat_take_le ms (k + 1)
      rw [hms.out] at hrx
      have hlen : Hid ((ms.take (k + 1)).flatten.length = (ms.take k).flatten.length + r.xs.length) := Lib.hid (by rw [hsn.out, List.length_append, hrx])
      have hl3 : (ms.take k).flatten.length + r.xs.length ≤ 1000000 := by rw [← hlen.out]; omega
      generalize (ms.take k).flatten.length = t at *
      clear hrx hrr
      have k1 : (k : Int) < (n : Int) := by omega
      have k2 : (0 : Int) ≤ (t : Int) + (r.xs.length : Int) := by omega
      go_wp2_with fail
      go_round
      case rel => exact ⟨k + 1, by omega, by go_num, by rw [hlen.out]; go_num⟩
      case measure => simp [intOf]; omega
    · obtain rfl : k = n := by omega
      have fin : Hid ((ms.take k).flatten = ms.flatten) := Lib.hid (by rw [List.take_of_length_le (by rw [hml.out]; exact Nat.le_refl _)])
      have HG : Calls Try.prog 100 #[.slice none 0 0, .int .i64 (((ms.take k).flatten.length : Nat) : Int)] w fun e w' => ∃ A c', e = .returned (.slice A 0 c') ∧ OwnI w' w.heap.size A c' [] ∧ Below w.heap.size w w' := by
        rw [fin.out]
        rcases Nat.eq_zero_or_pos ms.flatten.length with h0 | h0
        · rw [h0]
          exact (c_Grow0 w).mono fun e w' ⟨he, hw⟩ => ⟨none, 0, he, OwnI.nil _ _, by rw [← hw]; exact Below.refl _ _⟩
        · exact (c_Grow _ w h0 (by omega)).mono fun e w' ⟨g, c', he, ho, hb⟩ => ⟨_, c', he, ho, hb⟩
      generalize ((ms.take k).flatten.length : Nat) = t at *
      go_wp2_with fail
      refine HG.mono ?_
      rintro e w1 ⟨A, c1, rfl, o1, b1⟩
      have O1 := Lib.hid o1
      have B1 := Lib.hid b1
      clear o1 b1 HG
      go_wp2_with fail
      go_loopg [6, 27] k (fun m v i wx => ∃ (j : Nat) (A : Option Addr) (c' : Nat) (wy : World), wy = wx ∧ j ≤ k ∧ m = k - j ∧ i = .int .i64 j ∧ v = .slice A (ms.take j).flatten.length c' ∧ Hid (OwnI wy w.heap.size A c' (ms.take j).flatten) ∧ Hid (Below w.heap.size w wy))
      case atStart => exact ⟨0, A, c1, _, rfl, Nat.zero_le _, rfl, rfl, rfl, by simpa using O1, B1⟩
      case round =>
        obtain ⟨j, A2, c2, wy, rfl, hj, rfl, rfl, rfl, ho, hb⟩ := hrel
        by_cases hlt2 : j < k
        · obtain ⟨_, _, e, _, r, _, hrm, hrx, hrr, hrc⟩ := (HR.out.below hb.out).at_ hlt2
          cases e
          rw [Nat.zero_add] at hrc
          obtain ⟨rA, rc, rx⟩ := r
          simp only [Row.rd] at hrx hrr hrc hrm
          obtain ⟨ad, rfl⟩ : ∃ ad, rA = some ad := by
            cases rA with
            | none => exact absurd rfl (HA.out _ hrm)
            | some ad => exact ⟨ad, rfl⟩
          have hsn := Lib.hid (flat_take_succ (ms := ms) (k := j) (by rw [hml.out]; exact hlt2))
          have hle2 := flat_take_le ms (j + 1)
          rw [hms.out] at hrx
          rw [hrx] at hsn
          have hlen : Hid ((ms.take (j + 1)).flatten.length = (ms.take j).flatten.length + rx.length) := Lib.hid (by rw [hsn.out, List.length_append])
          have hl3 : (ms.take j).flatten.length + rx.length ≤ 1000000 := by rw [← hlen.out]; omega
          have hB : w.heap.size ≤ wy.heap.size := hb.out.size
          have Hrr := Lib.hid hrr
          obtain ⟨L, hL⟩ : ∃ L, Hid ((ms.take j).flatten = L) := ⟨_, Lib.hid rfl⟩
          rw [hL.out] at ho hl3 hlen hsn ⊢
          clear hrx hrr hle hle2
          have k1 : (j : Int) < (k : Int) := by omega
          go_wp2_with (at_builtin; refine appV _ 22 3 (.int .i64 0) 8 Try.underlying22 hI_int rfl rfl (.tmp 31) (.tmp 32) rfl w.heap.size _ _ _ _ rfl ho.out ad rx.length rc (rx.map (Value.int .i64)) rfl (by simp) (ints_all Hrr.out) one_ints (by omega) (by omega) hB ?_; intro A3 c3 w3 o3 g3)
          have fo : Hid (OwnI w3 w.heap.size A3 c3 (ms.take (j + 1)).flatten) := Lib.hid (by
            unfold OwnI
            rw [hsn.out, List.length_append, List.map_append]; exact o3)
          have fb : Hid (Below w.heap.size w w3) := Lib.hid (hb.out.grown g3 hB (fun q hq => (ho.out.lt q hq).1))
          clear o3 g3
          go_roundg (k - (j + 1))
          case measure => omega
          case rel => exact ⟨j + 1, A3, c3, _, rfl, by omega, rfl, by go_num, by rw [hlen.out], fo, fb⟩
        · obtain rfl : j = k := by omega
          have ho2 : Hid (OwnI wy w.heap.size A2 c2 ms.flatten) := by rw [fin.out] at ho; exact ho
          have e1 : Hid ((ms.take j).flatten.length = ms.flatten.length) := Lib.hid (by rw [fin.out])
          rw [e1.out]
          go_wp2_with fail
          go_ret
          exact ⟨A2, c2, rfl, ho2.out, hb.out⟩
end Go.Proofs.Ytoeacocijcammaa
