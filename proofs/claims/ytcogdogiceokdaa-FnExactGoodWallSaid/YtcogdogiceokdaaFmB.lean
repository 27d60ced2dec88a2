/- Forms: their sizes. -/
import Derived.Test.YtcogdogiceokdaaFmA
import Derived.Deep.LoopGhost
namespace Go.Proofs.Ytcogdogiceokdaa
open Go.RowKit

def El.tot (e : El) : Nat := (e.rs.map fun r => r.xs.length).sum
def tots (es : List El) : Nat := (es.map El.tot).sum
theorem tots_succ {es : List El} {k : Nat} {e : El} (h : es[k]? = some e) : tots (es.take (k + 1)) = tots (es.take k) + e.tot := by
  obtain ⟨hk, he⟩ := List.getElem?_eq_some_iff.1 h
  unfold tots
  rw [List.take_succ_eq_append_getElem hk, he]
  simp
theorem tots_mem {es : List El} {e : El} (h : e ∈ es) : e.tot ≤ tots es := by
  unfold tots
  induction es with
  | nil => simp at h
  | cons a l ih =>
    rw [List.map_cons, List.sum_cons]
    rcases List.mem_cons.1 h with rfl | h
    · omega
    · have := ih h; omega
theorem El.tot_mem {e : El} {r : Row} (h : r ∈ e.rs) : r.xs.length ≤ e.tot := by
  unfold El.tot
  generalize e.rs = l at h
  induction l with
  | nil => simp at h
  | cons a l ih =>
    rw [List.map_cons, List.sum_cons]
    rcases List.mem_cons.1 h with rfl | h
    · omega
    · have := ih h; omega
set_option maxHeartbeats 800000 in
theorem c_szIntS (A : Option Addr) (n c : Nat) (left : Int) (w : World) (h0 : 0 ≤ left) (h1 : left ≤ 1048576) (hn : n ≤ maxLen) :
    Calls Try.prog 58 #[.slice A n c, .int .i64 left] w fun e w' => e = .returned (.int .i64 (if left < (n : Int) then -1 else left - (n : Int))) ∧ w = w' := by
  unfold maxLen at hn
  by_cases h : left < (n : Int)
  · rw [if_pos h]
    go_enter Try.func58, Try.ntmps58
    have h2 : left - (n : Int) < 0 := by omega
    go_wp2_with fail
    go_ret
    exact ⟨rfl, rfl⟩
  · rw [if_neg h]
    go_enter Try.func58, Try.ntmps58
    have h2 : ¬ left - (n : Int) < 0 := by omega
    go_wp2_with fail
    go_ret
    exact ⟨rfl, rfl⟩
/-- What is left of a size. -/
def SizeP (left : Int) (t : Nat) (w : World) (e : Ending) (w' : World) : Prop := ∃ x : Int, e = .returned (.int .i64 x) ∧ (x = -1 ∨ (0 ≤ x ∧ x + (t : Int) = left)) ∧ Below w.heap.size w w'
theorem RdE.node {w : World} {A : Option Addr} {n k : Nat} {es : List El} (h : RdE 0 2 w A n es) (hk : k < n) : ∃ b off A1 c1 xs A2 c2 ys, A = some ⟨b, off, none⟩ ∧ b < w.heap.size ∧ es[k]? = some ⟨[], [⟨A1, c1, xs⟩, ⟨A2, c2, ys⟩]⟩ ∧ RdI w A1 xs.length xs ∧ RdI w A2 ys.length ys ∧
    w.cell? ⟨b, off + k * 2, none⟩ = some (.slice A1 xs.length c1) ∧ w.cell? ⟨b, off + k * 2 + 1, none⟩ = some (.slice A2 ys.length c2) := by
  obtain ⟨b, off, rfl, hb, ⟨is, rs⟩, he, _, f1, f2, hr, _, hc⟩ := h.at_ hk
  simp only at f1 f2 hr
  match is, f1, rs, f2 with
  | [], _, [r, s], _ =>
    obtain ⟨A1, c1, xs⟩ := r
    obtain ⟨A2, c2, ys⟩ := s
    refine ⟨b, off, A1, c1, xs, A2, c2, ys, rfl, hb, he, hr ⟨A1, c1, xs⟩ (by simp), hr ⟨A2, c2, ys⟩ (by simp), ?_, ?_⟩
    · have := hc 0 _ rfl
      simpa [Row.val] using this
    · have := hc 1 _ rfl
      rw [← Nat.add_assoc] at this
      simpa [Row.val] using this
set_option maxHeartbeats 1600000 in
theorem c_szNode (A B : Option Addr) (n m c d : Nat) (left : Int) (w : World) (h0 : 0 ≤ left) (h1 : left ≤ 1048576) (hn : n ≤ maxLen) (hm : m ≤ maxLen) :
    Calls Try.prog 48 #[.agg #[.slice A n c, .slice B m d], .int .i64 left] w (SizeP left (n + m) w) := by
  have H1 := Lib.hid (fun w => c_szIntS A n c left w h0 h1 hn)
  by_cases h : left < (n : Int)
  · rw [if_pos h] at H1
    go_enter Try.func48, Try.ntmps48
    go_wp2_with (go_at_call 58; refine (H1.out _).mono ?_; rintro e w' ⟨rfl, rfl⟩)
    exact bodyPost_ret (results_tmp rfl _ _ _) rfl ⟨-1, rfl, .inl rfl, by go_grown⟩
  · rw [if_neg h] at H1
    have H2 := Lib.hid (fun w => c_szIntS B m d (left - n) w (by omega) (by omega) hm)
    have h3 : ¬ left - (n : Int) < 0 := by omega
    by_cases h' : left - (n : Int) < (m : Int)
    · rw [if_pos h'] at H2
      go_enter Try.func48, Try.ntmps48
      go_wp2_with fail
      refine (H1.out _).mono ?_
      rintro e w' ⟨rfl, rfl⟩
      go_wp2_with fail
      refine (H2.out _).mono ?_
      rintro e w' ⟨rfl, rfl⟩
      go_wp2_with fail
      exact bodyPost_ret (results_tmp rfl _ _ _) rfl ⟨-1, rfl, .inl rfl, by go_grown⟩
    · rw [if_neg h'] at H2
      have h4 : ¬ left - (n : Int) - (m : Int) < 0 := by omega
      go_enter Try.func48, Try.ntmps48
      go_wp2_with fail
      refine (H1.out _).mono ?_
      rintro e w' ⟨rfl, rfl⟩
      go_wp2_with fail
      refine (H2.out _).mono ?_
      rintro e w' ⟨rfl, rfl⟩
      go_wp2_with fail
      exact bodyPost_ret (results_tmp rfl _ _ _) rfl ⟨left - n - m, rfl, .inr ⟨by omega, by omega⟩, by go_grown⟩
set_option maxHeartbeats 1600000 in
theorem c_szNodeS (A : Option Addr) (n c : Nat) (es : List El) (left : Int) (w : World) (h0 : 0 ≤ left) (h1 : left ≤ 1048576) (rd : RdE 0 2 w A n es) (hn : n ≤ maxLen) (hl : ∀ e ∈ es, ∀ r ∈ e.rs, r.xs.length ≤ maxLen) :
    Calls Try.prog 30 #[.slice A n c, .int .i64 left] w (SizeP left (n + tots es) w) := by
  have RD := Lib.hid rd
  have HL := Lib.hid hl
  unfold maxLen at hn
  clear rd hl
  by_cases h : left < (n : Int)
  · have h2 : left - (n : Int) < 0 := by omega
    go_enter Try.func30, Try.ntmps30
    go_wp2_with fail
    exact bodyPost_ret (results_tmp rfl _ _ _) rfl ⟨-1, rfl, .inl rfl, Below.refl _ _⟩
  · have h2 : ¬ left - (n : Int) < 0 := by omega
    go_enter Try.func30, Try.ntmps30
    go_wp2_with fail
    go_loopg [1, 5] n (fun mm l i wx => ∃ (k : Nat) (x : Int) (wz : World), wz = wx ∧ k ≤ n ∧ mm = n - k ∧ i = .int .i64 k ∧ l = .int .i64 x ∧ 0 ≤ x ∧ x ≤ 1048576 ∧ Hid (x + (n : Int) + (tots (es.take k) : Int) = left) ∧ Hid (Below w.heap.size w wz))
    case atStart => exact ⟨0, left - n, _, rfl, Nat.zero_le _, rfl, rfl, rfl, by omega, by omega, Lib.hid (by simp [tots]), Lib.hid (Below.refl _ _)⟩
    case round =>
      obtain ⟨k, x, wz, rfl, hk, rfl, rfl, rfl, x0, x1, hx, hb⟩ := hrel
      by_cases hlt : k < n
      · have hltI : (k : Int) < (n : Int) := by omega
        obtain ⟨b, off, A1, c1, xs, A2, c2, ys, rfl, _, he, _, _, hc0, hc1⟩ := (RD.out.below hb.out).node hlt
        have hm := HL.out _ (List.mem_of_getElem? he)
        have HN := Lib.hid (c_szNode A1 A2 xs.length ys.length c1 c2 x wz x0 x1 (hm ⟨A1, c1, xs⟩ (by simp)) (hm ⟨A2, c2, ys⟩ (by simp)))
        have ht : Hid (tots (es.take (k + 1)) = tots (es.take k) + (xs.length + ys.length)) := Lib.hid (by rw [tots_succ he]; simp [El.tot])
        clear he hm
        go_wp2_with fail
        refine HN.out.mono ?_
        rintro e w1 ⟨y, rfl, hy, b1⟩
        have B1 := Lib.hid (Below.next hb.out b1)
        clear b1 HN
        rcases hy with rfl | ⟨y0, hy⟩
        · go_wp2_with fail
          exact bodyPost_ret (results_tmp rfl _ _ _) rfl ⟨-1, rfl, .inl rfl, B1.out⟩
        · have hx2 : Hid (y + (n : Int) + (tots (es.take (k + 1)) : Int) = left) := Lib.hid (by have := hx.out; rw [ht.out]; push_cast at hy ⊢; omega)
          have y1 : y ≤ 1048576 := by push_cast at hy; omega
          have hy3 : ¬ y < 0 := by omega
          clear hx ht hy
          go_wp2_with fail
          go_roundg (n - (k + 1))
          case measure => omega
          case rel => exact ⟨k + 1, y, _, rfl, by omega, rfl, by go_num, rfl, y0, y1, hx2, B1⟩
      · obtain rfl : k = n := by omega
        have hf : Hid (x + ((k + tots es : Nat) : Int) = left) := Lib.hid (by
          have := hx.out
          rw [List.take_of_length_le (by rw [RD.out.len]; exact Nat.le_refl _)] at this
          push_cast; omega)
        go_wp2_with fail
        exact bodyPost_ret (results_tmp rfl _ _ _) rfl ⟨x, rfl, .inr ⟨x0, hf.out⟩, hb.out⟩
set_option maxHeartbeats 800000 in
theorem c_szForm (A : Option Addr) (n c : Nat) (es : List El) (left : Int) (w : World) (h0 : 0 ≤ left) (h1 : left ≤ 1048576) (rd : RdE 0 2 w A n es) (hn : n ≤ maxLen) (hl : ∀ e ∈ es, ∀ r ∈ e.rs, r.xs.length ≤ maxLen) :
    Calls Try.prog 11 #[.agg #[.slice A n c], .int .i64 left] w (SizeP left (n + tots es) w) := by
  have HN := Lib.hid (fun W (hb : Below w.heap.size w W) => c_szNodeS A n c es left W h0 h1 (rd.below hb) hn hl)
  clear rd hl
  go_enter Try.func11, Try.ntmps11
  go_wp2_with fail
  refine (HN.out _ (by go_grown)).mono ?_
  rintro e w1 ⟨y, rfl, hy, b1⟩
  have B1 : Hid (Below w.heap.size w w1) := Lib.hid (Below.next (by go_grown) b1)
  clear b1 HN
  rcases hy with rfl | ⟨y0, hy⟩
  · go_wp2_with fail
    exact bodyPost_ret (results_tmp rfl _ _ _) rfl ⟨-1, rfl, .inl rfl, B1.out⟩
  · have hy3 : ¬ y < 0 := by omega
    have HY := Lib.hid hy
    clear hy
    go_wp2_with fail
    exact bodyPost_ret (results_tmp rfl _ _ _) rfl ⟨y, rfl, .inr ⟨y0, HY.out⟩, B1.out⟩
end Go.Proofs.Ytcogdogiceokdaa
