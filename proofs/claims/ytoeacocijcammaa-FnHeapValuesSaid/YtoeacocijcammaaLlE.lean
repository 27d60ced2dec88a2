/- The program's lists of heaps, each once: slices.Equal, slices.CompactFunc. -/
import Derived.Test.YtoeacocijcammaaLlD
import Derived.Deep.LoopGhost
import Derived.Lib.SliceRun
namespace Go.Proofs.Ytoeacocijcammaa
open Go.RowKit

theorem take_eq_succ {xs ys : List Int} {k : Nat} (h1 : k < xs.length) (h2 : k < ys.length) (h : xs.take k = ys.take k) (e : xs.getD k 0 = ys.getD k 0) : xs.take (k + 1) = ys.take (k + 1) := by
  rw [List.take_succ_eq_append_getElem h1, List.take_succ_eq_append_getElem h2, h]
  simp [h1, h2] at e
  rw [e]
set_option maxHeartbeats 1600000 in
theorem c_Equal (A B : Option Addr) (n m c d : Nat) (xs ys : List Int) (w : World) (rx : RdI w A n xs) (ry : RdI w B m ys) (hn : n ≤ 100000000) (hm : m ≤ 100000000) :
    Calls Try.prog 79 #[.slice A n c, .slice B m d] w fun e w' => e = .returned (.bool (decide (xs = ys))) ∧ Q w w' := by
  have hxl : Hid (xs.length = n) := Lib.hid rx.len
  have hyl : Hid (ys.length = m) := Lib.hid ry.len
  by_cases hnm : n = m
  · subst hnm
    obtain ⟨z, hz⟩ : ∃ z, Hid (decide (xs = ys) = z) := ⟨_, Lib.hid rfl⟩
    rw [hz.out]
    go_enter Try.func79, Try.ntmps79
    go_wp2_with fail
    go_loopw [13] (fun i wr => ∃ k : Nat, k ≤ n ∧ i = .int .i64 k ∧ Q w wr ∧ Hid (xs.take k = ys.take k)) (fun i _ => n - (intOf i).toNat)
    case atStart => exact ⟨0, Nat.zero_le _, rfl, Q.refl _, Lib.hid rfl⟩
    case round =>
      rename_i wr
      obtain ⟨k, hk, rfl, q, hd⟩ := hrel
      by_cases h1 : k < n
      · obtain ⟨b, off, rfl, _, hc⟩ := (rx.q q).at_ h1
        obtain ⟨b', off', rfl, _, hc'⟩ := (ry.q q).at_ h1
        have hs := Lib.hid (take_eq_succ (xs := xs) (ys := ys) (k := k) (by rw [hxl.out]; exact h1) (by rw [hyl.out]; exact h1) hd.out)
        have hne : Hid (xs = ys → xs.getD k 0 = ys.getD k 0) := Lib.hid (fun h => by rw [h])
        generalize xs.getD k 0 = x at *
        generalize ys.getD k 0 = y at *
        have Q' := Lib.hid q
        clear rx ry q
        have h1' : (k : Int) < n := by omega
        by_cases hxy : x = y
        · have hs2 := Lib.hid (hs.out hxy)
          clear hs hne
          subst hxy
          go_wp2_with fail
          go_quiet (fail)
          go_wp2_with fail
          go_roundw
          case rel => exact ⟨k + 1, by omega, by go_num, Q'.out.drew _, hs2⟩
          case measure => simp [intOf]; omega
        · have fin : Hid (z = false) := Lib.hid (by rw [← hz.out]; exact decide_eq_false (fun h => hxy (hne.out h)))
          have e1 : (x == y) = false := by simpa using hxy
          have e2 : (x != y) = true := by simpa using hxy
          go_wp2_with fail
          go_quiet (fail)
          go_wp2_with fail
          go_ret
          exact ⟨ret_bool fin.out.symm, Q'.out.drew _⟩
      · obtain rfl : k = n := by omega
        have fin : Hid (z = true) := Lib.hid (by
          rw [← hz.out]
          have := hd.out
          rw [List.take_of_length_le (by rw [hxl.out]; exact Nat.le_refl _), List.take_of_length_le (by rw [hyl.out]; exact Nat.le_refl _)] at this
          exact decide_eq_true this)
        go_wp2_with fail
        go_ret
        exact ⟨ret_bool fin.out.symm, q⟩
  · have fin : Hid (decide (xs = ys) = false) := Lib.hid (decide_eq_false (fun h => hnm (by rw [← hxl.out, ← hyl.out, h])))
    rw [fin.out]
    have hnm2 : ¬ (n : Int) = m := by omega
    have e1 : ((n : Int) == m) = false := by simpa using hnm2
    have e2 : ((n : Int) != m) = true := by simpa using hnm2
    go_enter Try.func79, Try.ntmps79
    go_wp2_with fail
    go_ret
    exact ⟨rfl, Q.refl _⟩
theorem c_eqRow (x y : Row) (b : Bool) (hb : decide (x.xs = y.xs) = b) (w : World) (hx : x.rd w) (hy : y.rd w) (lx : x.xs.length ≤ 100000000) (ly : y.xs.length ≤ 100000000) :
    Calls Try.prog 79 #[.slice x.A x.xs.length x.c, .slice y.A y.xs.length y.c] w fun e w' => e = .returned (.bool b) ∧ Q w w' := by
  rw [← hb]; exact c_Equal _ _ _ _ _ _ _ _ _ hx hy lx ly

/-- Of rows whose equals stand together, one each. -/
def cptRF (p : List Int) : List Row → List Row
  | [] => []
  | y :: l => if y.xs = p then cptRF y.xs l else y :: cptRF y.xs l
def cptR : List Row → List Row
  | [] => []
  | x :: l => x :: cptRF x.xs l
theorem cptRF_nums : ∀ (l : List Row) (p : List Int), nums (cptRF p l) = cptF p (nums l)
  | [], p => rfl
  | y :: l, p => by
    have ih := cptRF_nums l y.xs
    simp only [cptRF, List.map_cons, cptF]
    split
    · exact ih
    · simp only [List.map_cons, ih]
theorem cptR_nums (l : List Row) : nums (cptR l) = cpt (nums l) := by
  cases l with
  | nil => rfl
  | cons x l => exact congrArg (x.xs :: ·) (cptRF_nums l x.xs)
theorem cptRF_sub : ∀ (l : List Row) (p : List Int), (cptRF p l).Sublist l
  | [], p => List.Sublist.refl _
  | y :: l, p => by
    simp only [cptRF]
    split
    · exact (cptRF_sub l y.xs).cons _
    · exact (cptRF_sub l y.xs).cons_cons _
theorem cptR_sub (l : List Row) : (cptR l).Sublist l := by
  cases l with
  | nil => exact List.Sublist.refl _
  | cons x l => exact (cptRF_sub l x.xs).cons_cons _
theorem cptRF_snoc : ∀ (l : List Row) (p : List Int) (y : Row), cptRF p (l ++ [y]) = cptRF p l ++ if y.xs = ((nums l).getLastD p) then [] else [y]
  | [], p, y => by simp [cptRF]
  | z :: l, p, y => by
    have ih := cptRF_snoc l z.xs y
    have e : (nums (z :: l)).getLastD p = (nums l).getLastD z.xs := by cases l <;> rfl
    rw [e]
    simp only [List.cons_append, cptRF]
    split
    · exact ih
    · rw [ih, List.cons_append]
theorem cptR_snoc {l : List Row} {k : Nat} (h0 : 0 < k) (hk : k < l.length) : cptR (l.take (k + 1)) = cptR (l.take k) ++ if (nums l).getD k [] = (nums l).getD (k - 1) [] then [] else [l[k]] := by
  cases l with
  | nil => simp at hk
  | cons x l =>
    obtain ⟨k, rfl⟩ : ∃ j, k = j + 1 := ⟨k - 1, by omega⟩
    have hk' : k < l.length := by simpa using hk
    rw [List.take_succ_cons, List.take_succ_cons, List.take_succ_eq_append_getElem hk']
    simp only [cptR, cptRF_snoc, List.cons_append]
    have e : (nums (l.take k)).getLastD x.xs = (nums (x :: l)).getD (k + 1 - 1) [] := by
      simp only [Nat.add_sub_cancel]
      rcases Nat.eq_zero_or_pos k with h | h
      · subst h; simp
      · obtain ⟨j, rfl⟩ : ∃ j, k = j + 1 := ⟨k - 1, by omega⟩
        rw [List.take_succ_eq_append_getElem (by omega)]
        simp only [nums, List.map_append, List.map_cons, List.map_nil]
        rw [List.getLastD_concat]
        simp [List.getD, List.getElem?_eq_getElem (show j < l.length by omega)]
    have e2 : (nums (x :: l)).getD (k + 1) [] = (l[k]).xs := by simp [hk']
    rw [e, e2]
    simp
theorem cptR_one (l : List Row) : cptR (l.take 1) = l.take 1 := by cases l <;> simp [cptR, cptRF]

theorem own_cut {w : World} {base g n c i : Nat} {E : TypeId} {us : List Value} (h : w.ownsRow base E 1 (.slice (some ⟨g, 0, none⟩) n c) n us) (hi : i ≤ n) : w.ownsRow base E 1 (.slice (some ⟨g, 0, none⟩) i c) i (us.take i) := by
  have hl : us.length = n := by simpa using h.1
  refine ⟨by simp [hl]; omega, ?_⟩
  rcases h.2 with ⟨h', _⟩ | ⟨g', cap', cur, h', hb, hg, hnc, hcm, hcs, htake⟩
  · cases h'
  · cases h'
    refine .inr ⟨g, c, cur, rfl, hb, hg, by omega, hcm, hcs, ?_⟩
    rw [← htake, List.take_take]
    congr 1; omega
theorem own_setCells {g base n c : Nat} {E : TypeId} : ∀ (vs : List Value) (o : Nat) (w : World) (us : List Value), w.ownsRow base E 1 (.slice (some ⟨g, 0, none⟩) n c) n us →
    ∃ us', (w.setCells g o vs).ownsRow base E 1 (.slice (some ⟨g, 0, none⟩) n c) n us' ∧ us'.take o = us.take o ∧ w.grownBy (w.setCells g o vs) (some g)
  | [], o, w, us, h => ⟨us, h, rfl, grownBy_refl _ _⟩
  | v :: vs, o, w, us, h => by
    obtain ⟨h1, h2⟩ := h.stored o v
    obtain ⟨us', h3, h4, h5⟩ := own_setCells vs (o + 1) _ _ h1
    refine ⟨us', h3, ?_, h2.trans h5⟩
    have e : us'.take o = (us'.take (o + 1)).take o := by rw [List.take_take]; congr 1; omega
    rw [e, h4, List.take_take, show min o (o + 1) = o by omega, List.take_set_of_le (Nat.le_refl _)]
theorem RdL.grown {w w' : World} {base g m : Nat} {c : Nat} {us : List Value} {rs : List Row} (ho : w.ownsRow base 22 1 (.slice (some ⟨g, 0, none⟩) m c) m us) (hr : ∀ r ∈ rs, r.rd w ∧ (0 < r.xs.length → r.blk ≠ some g)) (hg : w.grownBy w' (some g)) : ∀ r ∈ rs, r.rd w' := by
  intro r hm
  obtain ⟨h1, h2⟩ := hr r hm
  refine RdV.grown h1 (fun hn b off hA => ?_) hg
  intro e; subst e
  exact h2 hn (by unfold Row.blk Row.val; rw [hA]; rfl)
end Go.Proofs.Ytoeacocijcammaa
