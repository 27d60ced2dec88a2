/- What is split is put together again: the walk of the law FnSplit. -/
import Derived.Test.YtppaplgeecojgaaTxH
import Derived.Lib.IndexBytes
namespace Go.Proofs.Ytppaplgeecojgaa
open Go.RowKit

def flat (ps : List ByteArray) (b : UInt8) : List UInt8 := (ps.map fun p => p.data.toList ++ [b]).flatten
theorem flat_snoc (ps : List ByteArray) (p : ByteArray) (b : UInt8) : flat (ps ++ [p]) b = flat ps b ++ (p.data.toList ++ [b]) := by simp [flat]
theorem tail_flat (sep y : List UInt8) : ∀ (r : List (List UInt8)) (x : List UInt8), x ++ Lib.joinTail sep (r ++ [y]) = ((x :: r).map (· ++ sep)).flatten ++ y
  | [], x => by simp [Lib.joinTail]
  | a :: r, x => by
    have ih := tail_flat sep y r a
    have e : Lib.joinTail sep ((a :: r) ++ [y]) = sep ++ (a ++ Lib.joinTail sep (r ++ [y])) := by simp [Lib.joinTail]
    rw [e, ih]
    simp
theorem join_flat (ps : List ByteArray) (y : ByteArray) (b : UInt8) : Lib.join (byL (ps ++ [y])) [b] = flat ps b ++ y.data.toList := by
  cases ps with
  | nil => simp [byL, flat, Lib.join_one]
  | cons p r =>
    have e : byL (p :: r ++ [y]) = p.data.toList :: (byL r ++ [y.data.toList]) := by simp [byL]
    rw [e, Lib.join_cons, tail_flat]
    simp [flat, byL, List.map_map, Function.comp_def]
theorem toList_extract (s : ByteArray) (f k : Nat) : (s.extract f k).data.toList = (s.data.toList.drop f).take (k - f) := by
  rw [ByteArray.data_extract, Array.toList_extract, List.extract_eq_take_drop]
theorem parts_inv (s : ByteArray) (b : UInt8) : ∀ k, k ≤ s.size → (partsTo s b k).2 ≤ k ∧ flat (partsTo s b k).1 b = s.data.toList.take (partsTo s b k).2 ∧
    (∀ p ∈ (partsTo s b k).1, b ∉ p.data.toList) ∧ (∀ j, (partsTo s b k).2 ≤ j → j < k → s.data.toList.getD j 0 ≠ b)
  | 0, _ => ⟨Nat.le_refl _, by simp [partsTo, flat], fun p hp => by simp [partsTo] at hp, fun j _ h => by omega⟩
  | k + 1, hk => by
    obtain ⟨h1, h2, h3, h4⟩ := parts_inv s b k (by omega)
    have hkl : k < s.data.toList.length := by
      have : s.data.toList.length = s.size := Array.length_toList
      omega
    rw [partsTo]
    split
    · rename_i hb
      refine ⟨Nat.le_refl _, ?_, ?_, fun j h5 h6 => by simp at h5; omega⟩
      · show flat ((partsTo s b k).1 ++ [s.extract (partsTo s b k).2 k]) b = s.data.toList.take (k + 1)
        rw [flat_snoc, h2, toList_extract, List.take_succ_eq_append_getElem hkl]
        have e : s.data.toList[k] = b := by rw [← hb, List.getD_eq_getElem?_getD, List.getElem?_eq_getElem hkl]; rfl
        rw [e, ← List.append_assoc]
        congr 1
        have := List.take_append_drop (partsTo s b k).2 (s.data.toList.take k)
        rw [List.take_take, Nat.min_eq_left h1, List.drop_take] at this
        exact this
      · intro p hp
        rcases List.mem_append.1 hp with hp | hp
        · exact h3 p hp
        · rw [List.mem_singleton] at hp
          subst hp
          rw [toList_extract]
          intro hm
          obtain ⟨i, hi⟩ := List.getElem?_of_mem hm
          rw [List.getElem?_take] at hi
          split at hi
          · rename_i hlt
            rw [List.getElem?_drop] at hi
            refine h4 ((partsTo s b k).2 + i) (by omega) (by omega) ?_
            rw [List.getD_eq_getElem?_getD, hi]; rfl
          · simp at hi
    · rename_i hb
      refine ⟨by omega, h2, h3, fun j h5 h6 => ?_⟩
      by_cases e : j = k
      · subst e; exact hb
      · exact h4 j h5 (by omega)
theorem split_join (s sign : ByteArray) (hs : s.size ≤ 4000) (h1 : sign.size = 1) (h0 : 0 < sign.size) : joinT (splitL s sign[0]) sign = (s, true) := by
  obtain ⟨i1, i2, i3, i4⟩ := parts_inv s sign[0] s.size (Nat.le_refl _)
  have hsg : sign.data.toList = [sign[0]] := by
    have hl : sign.data.toList.length = 1 := by simpa using h1
    obtain ⟨x, hx⟩ := List.length_eq_one_iff.1 hl
    rw [hx]
    have := getB h0
    rw [hx] at this
    simpa using this
  have hj : (Lib.join (byL (splitL s sign[0])) sign.data.toList) = s.data.toList := by
    rw [hsg, splitL, join_flat, i2, Lib.extract_to_end, List.take_append_drop]
  have hne : (splitL s sign[0]).length ≠ 0 := by simp [splitL]
  have hlen := join_len (splitL s sign[0]) sign h1 hne
  rw [hj] at hlen
  have hok : okJ (splitL s sign[0]) sign[0] = true := by
    refine okJ_true (fun p hp => ?_) (by rw [← hlen]; simpa using hs)
    refine decide_eq_false ?_
    rcases List.mem_append.1 hp with hp | hp
    · exact i3 p hp
    · rw [List.mem_singleton] at hp
      subst hp
      rw [Lib.extract_to_end]
      intro hm
      obtain ⟨i, hi⟩ := List.getElem?_of_mem hm
      rw [List.getElem?_drop] at hi
      have hlt := (List.getElem?_eq_some_iff.1 hi).1
      refine i4 ((partsTo s sign[0] s.size).2 + i) (by omega) (by simpa using hlt) ?_
      rw [List.getD_eq_getElem?_getD, hi]; rfl
  rw [joinT_ok hne h1 h0 hok, joinB, hj, mk_data]
theorem szs_split (s sign : ByteArray) (hs : s.size ≤ 4000) (h1 : sign.size = 1) (h0 : 0 < sign.size) : szs (splitL s sign[0]) ≤ 4000 := by
  have h := split_join s sign hs h1 h0
  have hne : (splitL s sign[0]).length ≠ 0 := by simp [splitL]
  by_cases hok : okJ (splitL s sign[0]) sign[0] = true
  · have : (splitL s sign[0]).length - 1 + szs (splitL s sign[0]) ≤ 4000 := by
      simp only [okJ, Bool.and_eq_true, decide_eq_true_iff] at hok
      exact hok.2
    omega
  · rw [joinT_bad h0 (by simpa using hok)] at h
    exact absurd (congrArg Prod.snd h) (by simp)
end Go.Proofs.Ytppaplgeecojgaa
