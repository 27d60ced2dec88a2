/- The laws' own helpers for slices of slices: eqIntSS, markIntSS, heldIntSS. -/
import Derived.Test.YtoeacocijcammaaLlA
import Derived.Deep.LoopGhost
namespace Go.Proofs.Ytoeacocijcammaa
open Go.RowKit

set_option maxHeartbeats 800000 in
theorem c_eqIntSS_same (A A' : Option Addr) (n c c' : Nat) (rs rs' : List Row) (w : World) (hr : RdL w A n rs) (hr' : RdL w A' n rs') (he : nums rs = nums rs') (hn : n ≤ 10000000) (hl : ∀ s ∈ rs, s.xs.length ≤ 1048576) :
    Calls Try.prog 13 #[.slice A n c, .slice A' n c'] w fun e w' => e = .returned (.bool true) ∧ Q w w' := by
  have He := Lib.hid he
  clear he
  go_enter Try.func13, Try.ntmps13
  go_wp2_with fail
  go_loopw [5] (fun i wr => ∃ k : Nat, k ≤ n ∧ i = .int .i64 k ∧ Q w wr) (fun i _ => n - (intOf i).toNat)
  case atStart => exact ⟨0, Nat.zero_le _, rfl, Q.refl _⟩
  case round =>
    rename_i wr
    obtain ⟨k, hk, rfl, q⟩ := hrel
    by_cases hlt : k < n
    · obtain ⟨b, off, rfl, _, r, _, hm, hx, r1, hc⟩ := (hr.q q).at_ hlt
      obtain ⟨b', off', rfl, _, s, _, _, hy, r2, hc'⟩ := (hr'.q q).at_ hlt
      have exy : s.xs = r.xs := by rw [← hx, ← hy, He.out]
      have HB := Lib.hid (fun (m : Nat) => Q.quiet (n := m) (c_eqIntS_same r.A s.A r.xs.length r.c s.c r.xs (wr.drewN m) (RdI.q r1 ((Q.refl wr).drew m)) (by
        have := RdI.q r2 ((Q.refl wr).drew m)
        rw [exy] at this; exact this) (hl r hm)))
      rw [exy] at hc'
      clear hr hr' exy r1 r2 hx hy
      have h0 : (0 : Int) ≤ k := by omega
      have h1 : (k : Int) < n := by omega
      go_wp2_with fail
      go_quiet ((go_at_call 14; exact HB.out _))
      go_wp2_with fail
      go_roundw
      case rel => exact ⟨k + 1, by omega, by go_num, q.drew _⟩
      case measure => simp [intOf]; omega
    · go_wp2_with fail
      go_ret
      exact ⟨rfl, q⟩

/-- Rising numbers through all the lists. -/
def mkL (k : Int) : List (List Int) → List (List Int)
  | [] => []
  | m :: l => mks k m.length :: mkL (k + (m.length : Int)) l
def tot : List (List Int) → Nat
  | [] => 0
  | m :: l => m.length + tot l
theorem tot_app : ∀ (a b : List (List Int)), tot (a ++ b) = tot a + tot b
  | [], b => by simp [tot]
  | m :: a, b => by simp only [List.cons_append, tot, tot_app a b]; omega
theorem tot_take_succ {ms : List (List Int)} {j : Nat} (h : j < ms.length) : tot (ms.take (j + 1)) = tot (ms.take j) + (ms.getD j []).length := by
  rw [List.take_succ_eq_append_getElem h, tot_app]
  simp [tot, h]
theorem tot_take_le (ms : List (List Int)) (j : Nat) : tot (ms.take j) ≤ tot ms := by
  have := tot_app (ms.take j) (ms.drop j)
  rw [List.take_append_drop] at this; omega
theorem mkL_app : ∀ (a b : List (List Int)) (k : Int), mkL k (a ++ b) = mkL k a ++ mkL (k + (tot a : Int)) b
  | [], b, k => by simp [mkL, tot]
  | m :: a, b, k => by
    simp only [List.cons_append, mkL, tot, mkL_app a b]
    have e : k + (m.length : Int) + (tot a : Int) = k + ((m.length + tot a : Nat) : Int) := by omega
    rw [e]
theorem mkL_len : ∀ (a : List (List Int)) (k : Int), (mkL k a).length = a.length
  | [], k => rfl
  | m :: a, k => by simp [mkL, mkL_len a]
theorem mkL_take_succ {ms : List (List Int)} {j : Nat} (h : j < ms.length) (k : Int) : mkL k (ms.take (j + 1)) = mkL k (ms.take j) ++ [mks (k + (tot (ms.take j) : Int)) (ms.getD j []).length] := by
  rw [List.take_succ_eq_append_getElem h, mkL_app]
  simp [mkL, h]
theorem mkL_getD {ms : List (List Int)} {j : Nat} (h : j < ms.length) (k : Int) : (mkL k ms).getD j [] = mks (k + (tot (ms.take j) : Int)) (ms.getD j []).length := by
  have e : ms = ms.take (j + 1) ++ ms.drop (j + 1) := (List.take_append_drop _ _).symm
  have e2 : mkL k ms = mkL k (ms.take j) ++ [mks (k + (tot (ms.take j) : Int)) (ms.getD j []).length] ++ mkL (k + (tot (ms.take (j + 1)) : Int)) (ms.drop (j + 1)) := by
    rw [← mkL_take_succ h, ← mkL_app, ← e]
  rw [e2]
  have hl : (mkL k (ms.take j)).length = j := by rw [mkL_len]; simp; omega
  simp [List.getD, List.getElem?_append, hl]
/-- One row is written anew, in place. -/
theorem OwnL.remark {w w' : World} {base : Nat} {A : Option Addr} {c j : Nat} {rs : List Row} {r : Row} {ys : List Int} (h : OwnL w base A c rs) (hr : rs[j]? = some r) (hy : ys.length = r.xs.length)
    (ho : w'.ownsRow base 3 1 (.slice r.A r.xs.length r.c) r.xs.length (ys.map (Value.int .i64))) (hg : w.grownBy w' (Value.slice r.A r.xs.length r.c).ownBlock) : OwnL w' base A c (rs.set j ⟨r.A, r.c, ys⟩) := by
  obtain ⟨hj, hr'⟩ := List.getElem?_eq_some_iff.1 hr
  have hmem : r ∈ rs := by rw [← hr']; exact List.getElem_mem hj
  have hval : (Row.mk r.A r.c ys).val = r.val := by unfold Row.val; simp only [hy]
  have hblk : (Row.mk r.A r.c ys).blk = r.blk := by unfold Row.blk; rw [hval]
  have hmap : (rs.set j ⟨r.A, r.c, ys⟩).map Row.val = rs.map Row.val := by
    rw [List.map_set, hval]
    apply List.ext_getElem?
    intro i
    by_cases e : i = j
    · subst e; simp [hj, hr']
    · rw [List.getElem?_set_ne (fun h => e h.symm)]
  have hout : w'.ownsRow base 22 1 (.slice A rs.length c) rs.length (rs.map Row.val) := own_kept h.outer hg (by
    rcases h.away r hmem with h1 | h1
    · cases e : (Value.slice A rs.length c).ownBlock with
      | none => exact .inl rfl
      | some k => right; intro e2; have h1' : (Value.slice r.A r.xs.length r.c).ownBlock = none := h1
                  rw [h1'] at e2; cases e2
    · exact .inr (fun e => h1 e.symm))
  have hnew : (Row.mk r.A r.c ys).own w' base := by
    show w'.ownsRow base _ 1 (.slice r.A ys.length r.c) ys.length (ys.map (Value.int .i64))
    rw [hy]; exact ho
  have hap : ∀ s ∈ rs, ∀ i : Nat, rs[i]? = some s → i ≠ j → s.blk = none ∨ s.blk ≠ r.blk := by
    intro s _ i hi hne
    obtain ⟨hi', hs'⟩ := List.getElem?_eq_some_iff.1 hi
    have hp := List.pairwise_iff_getElem.1 h.apart
    rcases Nat.lt_or_gt_of_ne hne with hlt | hgt
    · have := hp i j hi' hj hlt
      rw [hs', hr'] at this; exact this
    · have := hp j i hj hi' hgt
      rw [hs', hr'] at this
      rcases this with h1 | h1
      · cases e : s.blk with
        | none => exact .inl rfl
        | some k => exact .inr (by rw [h1]; simp)
      · exact .inr (fun e => h1 e.symm)
  have hrow : ∀ s ∈ rs.set j ⟨r.A, r.c, ys⟩, s = ⟨r.A, r.c, ys⟩ ∨ (s ∈ rs ∧ (s.blk = none ∨ s.blk ≠ r.blk)) := by
    intro s hs
    obtain ⟨i, hi⟩ := List.mem_iff_getElem?.1 hs
    by_cases e : i = j
    · subst e
      rw [List.getElem?_set_self hj] at hi
      exact .inl (Option.some.inj hi).symm
    · rw [List.getElem?_set_ne (fun h => e h.symm)] at hi
      have hm : s ∈ rs := List.mem_iff_getElem?.2 ⟨i, hi⟩
      exact .inr ⟨hm, hap s hm i hi e⟩
  refine ⟨by rw [List.length_set, hmap]; exact hout, ?_, ?_, ?_⟩
  · intro s hs
    rcases hrow s hs with rfl | ⟨hm, hne⟩
    · exact hnew
    · exact own_kept (h.rows s hm) hg hne
  · intro s hs
    rw [List.length_set]
    rcases hrow s hs with rfl | ⟨hm, _⟩
    · rw [hblk]; exact h.away r hmem
    · exact h.away s hm
  · rw [List.pairwise_iff_getElem]
    intro i1 i2 h1 h2 hlt
    rw [List.length_set] at h1 h2
    have hp := List.pairwise_iff_getElem.1 h.apart i1 i2 h1 h2 hlt
    have eb : ∀ i (hi : i < rs.length), (rs.set j ⟨r.A, r.c, ys⟩)[i]'(by simpa using hi) = if i = j then ⟨r.A, r.c, ys⟩ else rs[i] := by
      intro i hi
      rw [List.getElem_set]
      by_cases e : j = i
      · subst e; simp
      · rw [if_neg e, if_neg (fun h => e h.symm)]
    have bb : ∀ i (hi : i < rs.length), ((rs.set j ⟨r.A, r.c, ys⟩)[i]'(by simpa using hi)).blk = rs[i].blk := by
      intro i hi
      rw [eb i hi]
      by_cases e : i = j
      · subst e; rw [if_pos rfl, hblk, hr']
      · rw [if_neg e]
    rw [bb i1 h1, bb i2 h2]
    exact hp
theorem OwnL.nums_remark {rs : List Row} {r : Row} {j : Nat} {ys : List Int} : nums (rs.set j ⟨r.A, r.c, ys⟩) = (nums rs).set j ys := by unfold nums; rw [List.map_set]
set_option maxHeartbeats 1600000 in
theorem c_markIntSS (A : Option Addr) (c base : Nat) (rs : List Row) (k : Int) (w : World) (h : OwnL w base A c rs) (hn : rs.length ≤ 10000000) (ht : tot (nums rs) ≤ 100000000) (hlm : ∀ m ∈ nums rs, m.length ≤ 10000000) (h0 : 0 ≤ k) (h1 : k ≤ 100000000) :
    Calls Try.prog 16 #[.slice A rs.length c, .int .i64 k] w fun e w' => e = .returned (.int .i64 (k + (tot (nums rs) : Int))) ∧
      ∃ rs', rs'.length = rs.length ∧ OwnL w' base A c rs' ∧ nums rs' = mkL k (nums rs) ∧ Below base w w' := by
  obtain ⟨n, hn0⟩ : ∃ n, Hid (rs.length = n) := ⟨_, Lib.hid rfl⟩
  obtain ⟨ms, hms⟩ : ∃ ms, Hid (nums rs = ms) := ⟨_, Lib.hid rfl⟩
  have hml : Hid (ms.length = n) := Lib.hid (by rw [← hms.out]; simp [hn0.out])
  rw [hn0.out] at hn ⊢
  rw [hms.out] at ht hlm ⊢
  have Hlm := Lib.hid hlm
  clear hlm
  have H := Lib.hid h
  clear h
  go_enter Try.func16, Try.ntmps16
  go_wp2_with fail
  go_loopw [1, 5] (fun a i wr => ∃ (j : Nat) (rj : List Row) (wx : World), wx = wr ∧ j ≤ n ∧ i = .int .i64 j ∧ a = .int .i64 (k + (tot (ms.take j) : Int)) ∧ Hid (rj.length = n) ∧ Hid (OwnL wx base A c rj) ∧
    Hid (nums rj = mkL k (ms.take j) ++ ms.drop j) ∧ Hid (Below base w wx)) (fun _ i _ => n - (intOf i).toNat)
  case atStart => exact ⟨0, rs, _, rfl, Nat.zero_le _, rfl, by simp [tot], hn0, H, Lib.hid (by simp [mkL, hms.out]), Lib.hid ⟨rfl, rfl, rfl, Nat.le_refl _, fun _ _ => rfl⟩⟩
  case round =>
    obtain ⟨j, rj, wx, rfl, hj, rfl, rfl, hl, ho, hN, hB⟩ := hrel
    have htj := tot_take_le ms j
    by_cases hlt : j < n
    · obtain ⟨b, off, rfl, _, r, hri, hm, hx, r1, hc⟩ := ho.out.rd.at_ (k := j) (by rw [hl.out]; exact hlt)
      have hxs : r.xs = ms.getD j [] := by
        rw [← hx, hN.out]
        have : (mkL k (ms.take j)).length = j := by rw [mkL_len, List.length_take, hml.out]; omega
        simp [List.getD, List.getElem?_append_right, this]
      have hts := tot_take_succ (ms := ms) (j := j) (by rw [hml.out]; exact hlt)
      have hmk := Lib.hid (mkL_take_succ (ms := ms) (j := j) (by rw [hml.out]; exact hlt) k)
      rw [← hxs] at hts hmk
      have htj2 := tot_take_le ms (j + 1)
      have Hts := Lib.hid hts
      have hrl : r.xs.length ≤ 10000000 := by
        rw [hxs]
        have hjm : j < ms.length := by rw [hml.out]; exact hlt
        exact Hlm.out _ (by simp [List.getD, hjm])
      have HM := c_markIntS r.A r.c base r.xs (k + (tot (ms.take j) : Int)) wx (ho.out.rows r hm) hrl (by omega) (by omega)
      have Hri := Lib.hid hri
      clear hts hx hxs hri r1
      go_wp2_with fail
      refine HM.mono ?_
      rintro e w2 ⟨rfl, o2, g2⟩
      have hre := Lib.hid (OwnL.remark ho.out Hri.out (mks_len _ _) o2 g2)
      have hB2 : Hid (Below base w w2) := Lib.hid (hB.out.grown g2 (by
        have h3 := hB.out.size
        have := (ho.out.outer.lt b rfl).1
        have := (ho.out.outer.lt b rfl).2
        omega) (fun q hq => ((ho.out.rows r hm).lt q hq).1))
      clear o2 g2
      go_wp2_with fail
      go_roundw
      case rel =>
        refine ⟨j + 1, _, _, rfl, by omega, by go_num, by rw [Hts.out]; simp only [Value.int.injEq, true_and]; omega, Lib.hid (by rw [List.length_set]; exact hl.out), hre, Lib.hid ?_, hB2⟩
        rw [OwnL.nums_remark, hN.out, hmk.out]
        have hjl : (mkL k (ms.take j)).length = j := by rw [mkL_len, List.length_take, hml.out]; omega
        have e1 : (mkL k (ms.take j) ++ ms.drop j).set j (mks (k + (tot (ms.take j) : Int)) r.xs.length) = mkL k (ms.take j) ++ [mks (k + (tot (ms.take j) : Int)) r.xs.length] ++ ms.drop (j + 1) := by
          rw [List.set_append_right _ _ (by omega), hjl, Nat.sub_self, List.drop_eq_getElem_cons (by rw [hml.out]; exact hlt), List.set_cons_zero, List.append_assoc]
          rfl
        exact e1
      case measure => simp [intOf]; omega
    · obtain rfl : j = n := by omega
      have fin : Hid (tot (ms.take j) = tot ms) := Lib.hid (by rw [List.take_of_length_le (by rw [hml.out]; exact Nat.le_refl _)])
      have finN : Hid (nums rj = mkL k ms) := Lib.hid (by rw [hN.out, List.take_of_length_le (by rw [hml.out]; exact Nat.le_refl _), List.drop_of_length_le (by rw [hml.out]; exact Nat.le_refl _), List.append_nil])
      go_wp2_with fail
      go_ret
      exact ⟨ret_int (by rw [fin.out]), rj, hl.out, ho.out, finN.out, hB.out⟩
set_option maxHeartbeats 1600000 in
theorem c_heldIntSS (A : Option Addr) (n c : Nat) (rs : List Row) (ms : List (List Int)) (k : Int) (w : World) (h : RdL w A n rs) (hnum : nums rs = mkL k ms) (hn : n ≤ 10000000) (ht : tot ms ≤ 100000000) (hlm : ∀ m ∈ ms, m.length ≤ 10000000) (h0 : 0 ≤ k) (h1 : k ≤ 100000000) :
    Calls Try.prog 17 #[.slice A n c, .int .i64 k] w fun e w' => e = .returned (.int .i64 (k + (tot ms : Int))) ∧ w = w' := by
  have hml : Hid (ms.length = n) := Lib.hid (by
    have h2 := h.len
    have : (nums rs).length = (mkL k ms).length := by rw [hnum]
    rw [mkL_len] at this; simp at this; omega)
  have Hnum := Lib.hid hnum
  have Hlm := Lib.hid hlm
  clear hnum hlm
  go_enter Try.func17, Try.ntmps17
  go_wp2_with fail
  go_loop [1, 5] (fun a i => ∃ j : Nat, j ≤ n ∧ i = .int .i64 j ∧ a = .int .i64 (k + (tot (ms.take j) : Int))) (fun _ i => n - (intOf i).toNat)
  case atStart => exact ⟨0, Nat.zero_le _, rfl, by simp [tot]⟩
  case round =>
    obtain ⟨j, hj, rfl, rfl⟩ := hrel
    have htj := tot_take_le ms j
    by_cases hlt : j < n
    · obtain ⟨b, off, rfl, _, r, _, hm, hx, r1, hc⟩ := h.at_ hlt
      have hjm : j < ms.length := by rw [hml.out]; exact hlt
      have hxs : r.xs = mks (k + (tot (ms.take j) : Int)) (ms.getD j []).length := by rw [← hx, Hnum.out, mkL_getD hjm]
      have hts := tot_take_succ (ms := ms) (j := j) hjm
      have htj2 := tot_take_le ms (j + 1)
      have hlen : r.xs.length = (ms.getD j []).length := by rw [hxs, mks_len]
      have hrl : r.xs.length ≤ 10000000 := by rw [hlen]; exact Hlm.out _ (by simp [List.getD, hjm])
      rw [← hlen] at hts hxs
      have Hts := Lib.hid hts
      have r2 : RdI w r.A r.xs.length (mks (k + (tot (ms.take j) : Int)) r.xs.length) := by have := r1; unfold Row.rd at this; rw [← hxs]; exact this
      have HH := c_heldIntS r.A r.xs.length r.c (k + (tot (ms.take j) : Int)) w r2 (by omega) (by omega) (by omega)
      have hk0 : (0 : Int) ≤ k + (tot (ms.take j) : Int) + (r.xs.length : Int) := by omega
      clear hts hx hxs r1 r2 hlen
      go_wp2_with fail
      refine HH.mono ?_
      rintro e w2 ⟨rfl, rfl⟩
      go_wp2_with fail
      go_round
      case rel => exact ⟨j + 1, by omega, by go_num, by rw [Hts.out]; simp only [Value.int.injEq, true_and]; omega⟩
      case measure => simp [intOf]; omega
    · obtain rfl : j = n := by omega
      have fin : Hid (tot (ms.take j) = tot ms) := Lib.hid (by rw [List.take_of_length_le (by rw [hml.out]; exact Nat.le_refl _)])
      go_wp2_with fail
      go_ret
      exact ⟨ret_int (by rw [fin.out]), rfl⟩
/-- Lists of a size that the laws' helpers bear. -/
def SmallL (ms : List (List Int)) : Prop := ms.length ≤ 1000000 ∧ (∀ m ∈ ms, m.length ≤ 1000000) ∧ tot ms ≤ 100000000
/-- A slice of slices that is read, and a bool; one of the call's own, and a bool. -/
def ReadP (w : World) (m : List (List Int) × Bool) (e : Ending) (w' : World) : Prop :=
  ∃ A c rs, e = .returned (.tuple #[.slice A m.1.length c, .bool m.2]) ∧ RdL w' A m.1.length rs ∧ nums rs = m.1 ∧ Below w.heap.size w w'
def OwnP (w : World) (m : List (List Int) × Bool) (e : Ending) (w' : World) : Prop :=
  ∃ A c rs, e = .returned (.tuple #[.slice A m.1.length c, .bool m.2]) ∧ OwnL w' w.heap.size A c rs ∧ nums rs = m.1 ∧ Below w.heap.size w w'
theorem hlen_of {ms : List (List Int)} {rs : List Row} (h : ∀ m ∈ ms, m.length ≤ 1000000) (e : nums rs = ms) : ∀ s ∈ rs, s.xs.length ≤ 1048576 := fun s hs => by
  have := h s.xs (by rw [← e]; exact List.mem_map_of_mem hs)
  omega
theorem OwnL.other {w w0 w' : World} {base base' : Nat} {A A' : Option Addr} {c c' : Nat} {rs : List Row} {m : Nat} {us : List Value} (h : OwnL w base A c rs) (ho : w0.ownsRow base' 3 1 (.slice A' m c') m us) (hlt : w0.heap.size ≤ base) (hg : w.grownBy w' (Value.slice A' m c').ownBlock) :
    OwnL w' base A c rs := by
  have key : ∀ (v : Value) {E : TypeId} {k : Nat} {vs : List Value}, w.ownsRow base E 1 v k vs → w'.ownsRow base E 1 v k vs := by
    intro v E k vs hv
    refine own_kept hv hg ?_
    cases e : v.ownBlock with
    | none => exact .inl rfl
    | some j =>
      right
      intro e2
      have h1 := (hv.lt j e).1
      have h2 := (ho.lt j e2.symm).2
      omega
  exact ⟨key _ h.outer, fun r hr => key _ (h.rows r hr), h.away, h.apart⟩
theorem OwnL.rdm {w : World} {base : Nat} {A : Option Addr} {c n : Nat} {rs : List Row} (h : OwnL w base A c rs) (hn : rs.length = n) : RdL w A n rs := by rw [← hn]; exact h.rd
end Go.Proofs.Ytoeacocijcammaa
