/- Numbers with commas between: the program's and the reference's. -/
import Derived.Test.YtcogdogiceokdaaDoorPtP
import Derived.Test.YtcogdogiceokdaaDoorNtB
namespace Go.Proofs.YtcogdogiceokdaaDoor
open Go.RowKit

theorem own_len_cap {w : World} {base : Nat} {E : TypeId} {g n c : Nat} {us : List Value} (h : w.ownsRow base E 1 (.slice (some ⟨g, 0, none⟩) n c) n us) : n ≤ c := by
  rcases h.2 with ⟨he, _⟩ | ⟨g', cap, cur, he, _, _, hc, _⟩
  · cases he
  · injection he with _ _ e3
    omega
theorem own_cells {w : World} {base : Nat} {E : TypeId} {g n c : Nat} {ps : List ByteArray} (h : w.ownsRow base E 1 (.slice (some ⟨g, 0, none⟩) n c) n (ps.map Value.string)) : ∀ (j : Nat) x, ps[j]? = some x → w.cell? ⟨g, 0 + j, none⟩ = some (.string x) := by
  intro j x hj
  obtain ⟨hl, _⟩ := List.getElem?_eq_some_iff.1 hj
  have h1 := h.1
  rw [List.length_map] at h1
  rw [Nat.zero_add, h.cellAt j (by omega), List.getElem?_map, hj]
  rfl
theorem join_eq {ps : List ByteArray} {ts : List (List Int)} (b : Int) (h : ps = ts.map strOfNums) : (⟨(Lib.join (ps.map (·.data.toList)) (strOfNums [b]).data.toList).toArray⟩ : ByteArray) = strOfNums (joinL b ts) := by
  subst h
  exact joinB_joinL b ts
theorem join_eq_len {ps : List ByteArray} {ts : List (List Int)} (b : Int) (h : ps = ts.map strOfNums) : (Lib.join (ps.map (·.data.toList)) (strOfNums [b]).data.toList).length = (joinL b ts).length := by
  have h1 := congrArg ByteArray.size (join_eq b h)
  rw [strOfNums_size] at h1
  rw [← h1]
  show _ = (Lib.join _ _).toArray.size
  simp
theorem map_snoc {α β : Type} {l : List α} {k : Nat} {x : α} (f : α → β) (h : l[k]? = some x) : (l.take (k + 1)).map f = (l.take k).map f ++ [f x] := by
  obtain ⟨hk, he⟩ := List.getElem?_eq_some_iff.1 h
  rw [List.take_succ_eq_append_getElem hk, he, List.map_append]
  rfl
theorem getD_some {l : List Int} {k : Nat} (h : k < l.length) : l[k]? = some (l.getD k 0) := by simp [h]
set_option maxHeartbeats 1600000 in
theorem c_numbersText (A : Option Addr) (c : Nat) (xs : List Int) (w : World) (rd : RdI w A xs.length xs) (hn : xs.length ≤ 4000) (hx : ∀ x ∈ xs, 0 ≤ x ∧ x < 1000) (ht : Tab w) :
    Calls Tryd.prog 20 #[.slice A xs.length c] w fun e w' => e = .returned (.string (strOfNums (numsT xs))) ∧ Below w.heap.size w w' := by
  have RD := Lib.hid rd
  have HT := Lib.hid ht
  have HX := Lib.hid hx
  clear rd ht hx
  go_enter Tryd.func20, Tryd.ntmps20
  go_wp2_with fail
  have O0 := Lib.hid (own_litS w w.heap.size (Nat.le_refl _))
  have B0 : Hid (Below w.heap.size w (w.alloc (.cells #[] 9))) := Lib.hid ((Below.refl _ _).alloc (Nat.le_refl _) _)
  go_loopg [3, 9] xs.length (fun mm o i wx => ∃ (k g cap : Nat) (ps : List ByteArray) (wz : World), wz = wx ∧ k ≤ xs.length ∧ mm = xs.length - k ∧ i = .int .i64 k ∧ o = .slice (some ⟨g, 0, none⟩) k cap ∧
      Hid (wz.ownsRow w.heap.size 9 1 (.slice (some ⟨g, 0, none⟩) k cap) k (ps.map Value.string)) ∧ w.heap.size ≤ g ∧ Hid (Below w.heap.size w wz) ∧ Hid (ps = ((xs.take k).map numB).map strOfNums))
  case atStart => exact ⟨0, w.heap.size, 0, [], _, rfl, Nat.zero_le _, rfl, rfl, rfl, O0, Nat.le_refl _, B0, Lib.hid rfl⟩
  case round =>
    obtain ⟨k, g, cap, ps, wz, rfl, hk, rfl, rfl, rfl, hown, hgw, hb, hps⟩ := hrel
    clear O0 B0
    by_cases hlt : k < xs.length
    · have hltI : (k : Int) < (xs.length : Int) := by omega
      obtain ⟨b, off, rfl, _, hc⟩ := (RD.out.below hb.out).at_ hlt
      have hy := HX.out (xs.getD k 0) (by simp [hlt])
      have HI := Lib.hid (fun w h => c_Itoa (xs.getD k 0) w h (by omega) (by omega))
      have hps2 : Hid (ps ++ [strOfNums (numB (xs.getD k 0))] = ((xs.take (k + 1)).map numB).map strOfNums) := Lib.hid (by rw [map_snoc numB (getD_some hlt), List.map_append, ← hps.out]; rfl)
      generalize xs.getD k 0 = y at *
      generalize strOfNums (numB y) = t at *
      have ht1 := HT.out.below hb.out
      go_wp2_with fail
      refine (HI.out _ ht1).mono ?_
      rintro e w1 ⟨rfl, b1⟩
      have hown1 := own_below hown.out b1
      have B1 := Lib.hid (Below.next hb.out b1)
      have hB : w.heap.size ≤ w1.heap.size := B1.out.size
      clear b1 ht1 HI hown hb
      go_wp2_with (at_builtin; refine app1 _ 45 9 (.string ⟨#[]⟩) 16 Tryd.underlying45 hI_str rfl rfl (.tmp 13) (.tmp 16) rfl w.heap.size _ _ _ rfl hown1 (.string t) rfl rfl (by omega) (by omega) hB ?_; intro g' cap' w' h1 h2 h3)
      go_roundg (xs.length - (k + 1))
      case measure => omega
      case rel =>
        refine ⟨k + 1, g', cap', ps ++ [t], _, rfl, by omega, rfl, by go_num, rfl, Lib.hid ?_, ?_, Lib.hid (B1.out.grown h2 hB (by intro q hq; have := Option.some.inj (show some g = some q from hq); omega)), hps2⟩
        · rw [List.map_append]; exact h1
        · rcases h3 with h3 | h3
          · have := Option.some.inj (show some g = some g' from h3); omega
          · omega
    · obtain rfl : k = xs.length := by omega
      have hps1 : ps = (xs.map numB).map strOfNums := by have := hps.out; rwa [List.take_length] at this
      have hpl : Hid (ps.length = xs.length) := Lib.hid (by rw [hps1]; simp)
      have hj := join_eq 44 hps1
      have hjl := join_eq_len 44 hps1
      have hjn := (numsT_len HX.out).1
      have HJ := Tryd.strings_Join g 0 cap ps (strOfNums [44]) wz (own_cells hown.out) (hown.out.lt g rfl).2 (by rw [hpl.out]; omega) (by rw [hpl.out]; exact own_len_cap hown.out) (by rw [hjl]; unfold numsT at hjn; omega)
      rw [hj, hpl.out] at HJ
      have HJ := Lib.hid HJ
      clear hj hjl hjn hps1 hps hpl
      go_wp2_with fail
      refine HJ.out.mono ?_
      rintro e w1 ⟨rfl, b1⟩
      have B1 := Lib.hid (Below.next hb.out b1)
      clear b1
      go_wp2_with fail
      go_ret
      exact ⟨rfl, B1.out⟩
set_option maxHeartbeats 1600000 in
theorem s_l15Numbers (A : Option Addr) (c : Nat) (xs : List Int) (w : World) (rd : RdI w A xs.length xs) (hn : xs.length ≤ 1048576) (hx : ∀ x ∈ xs, 0 ≤ x ∧ x < 1000) :
    Calls Tryd.prog 34 #[.slice A xs.length c] w fun e w' => e = .returned (.string (strOfNums (numsT xs))) ∧ Q w w' := by
  have RD := Lib.hid rd
  have HX := Lib.hid hx
  clear rd hx
  go_enter Tryd.func34, Tryd.ntmps34
  go_wp2_with fail
  go_loopg [3, 4] xs.length (fun mm o i wx => ∃ (k : Nat) (T : List Int) (wz : World), wz = wx ∧ k ≤ xs.length ∧ mm = xs.length - k ∧ i = .int .i64 k ∧ o = .string (strOfNums T) ∧ T.length ≤ 4 * k ∧ Hid (T = numsT (xs.take k)) ∧ Hid (Q w wz))
  case atStart => exact ⟨0, [], _, rfl, Nat.zero_le _, rfl, rfl, rfl, by simp, Lib.hid rfl, Lib.hid (Q.refl _)⟩
  case round =>
    obtain ⟨k, T, wz, rfl, hk, rfl, rfl, rfl, hT, hTe, hq⟩ := hrel
    by_cases hlt : k < xs.length
    · have hltI : (k : Int) < (xs.length : Int) := by omega
      obtain ⟨b, off, rfl, _, hc⟩ := (RD.out.q hq.out).at_ hlt
      have hy := HX.out (xs.getD k 0) (by simp [hlt])
      have hyl := numB_len3 hy.1 hy.2
      have HN := Lib.hid (fun w => s_l1Num (xs.getD k 0) w (by omega) (by omega))
      by_cases hk0 : 0 < k
      · have hk0I : (0 : Int) < (k : Int) := by omega
        have hT2 : Hid (T ++ [44] ++ numB (xs.getD k 0) = numsT (xs.take (k + 1))) := Lib.hid (by rw [numsT_take (getD_some hlt) hk0, hTe.out])
        generalize xs.getD k 0 = y at *
        generalize numB y = t at *
        have hadd1 := fun w => run_str_add (P := Tryd.prog) T [44] w (by simp; omega)
        rw [show strOfNums [44] = ⟨#[44]⟩ from rfl] at hadd1
        have hadd2 := fun w => run_str_add (P := Tryd.prog) (T ++ [44]) t w (by simp; omega)
        have hT3 : (T ++ [44] ++ t).length ≤ 4 * (k + 1) := by simp; omega
        generalize T ++ [44] = T1 at *
        generalize T1 ++ t = T2 at *
        go_wp2_with fail
        refine (HN.out _).mono ?_
        rintro e w1 ⟨rfl, q1⟩
        have Q1 := Lib.hid (hq.out.trans q1)
        clear q1
        go_wp2_with fail
        go_roundg (xs.length - (k + 1))
        case measure => omega
        case rel => exact ⟨k + 1, T2, _, rfl, by omega, rfl, by go_num, rfl, hT3, hT2, Q1⟩
      · have hk0I : ¬ (0 : Int) < (k : Int) := by omega
        have hT0 : T = [] := by
          have := hTe.out
          rw [show k = 0 by omega] at this
          exact this
        subst hT0
        have hT2 : Hid (numB (xs.getD k 0) = numsT (xs.take (k + 1))) := Lib.hid (by
          have e : k = 0 := by omega
          subst e
          exact (numsT_take0 (getD_some hlt)).symm)
        generalize xs.getD k 0 = y at *
        generalize numB y = t at *
        have hadd2 := fun w => run_str_add (P := Tryd.prog) [] t w (by simp; omega)
        rw [show strOfNums [] = ⟨#[]⟩ from rfl, List.nil_append] at hadd2
        rw [show strOfNums [] = ⟨#[]⟩ from rfl]
        go_wp2_with fail
        refine (HN.out _).mono ?_
        rintro e w1 ⟨rfl, q1⟩
        have Q1 := Lib.hid (hq.out.trans q1)
        clear q1
        go_wp2_with fail
        go_roundg (xs.length - (k + 1))
        case measure => omega
        case rel => exact ⟨k + 1, t, _, rfl, by omega, rfl, by go_num, rfl, by omega, hT2, Q1⟩
    · obtain rfl : k = xs.length := by omega
      have hf : T = numsT xs := by have := hTe.out; rwa [List.take_length] at this
      subst hf
      go_wp2_with fail
      go_ret
      exact ⟨rfl, hq.out⟩
end Go.Proofs.YtcogdogiceokdaaDoor
