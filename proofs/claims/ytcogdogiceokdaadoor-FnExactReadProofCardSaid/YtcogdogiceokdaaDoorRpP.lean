/- Plain: texts that are split at a byte: the parts are the only ones. -/
import Derived.Test.YtcogdogiceokdaaDoorPtP
import Derived.Test.YtcogdogiceokdaaDoorNtE
import Derived.Lib.IndexBytes
import Derived.Lib.SplitLaws
namespace Go.Proofs.YtcogdogiceokdaaDoor
open Go.RowKit

theorem tail_join (b : UInt8) (a : List UInt8) (r : List (List UInt8)) : Lib.joinTail [b] (a :: r) = b :: Lib.join (a :: r) [b] := by
  rw [Lib.join_cons]
  simp [Lib.joinTail]
theorem join_two (b : UInt8) (x a : List UInt8) (r : List (List UInt8)) : Lib.join (x :: a :: r) [b] = x ++ b :: Lib.join (a :: r) [b] := by rw [Lib.join_cons, tail_join]
theorem head_same {b : UInt8} : ∀ {p q tp tq : List UInt8}, b ∉ p → b ∉ q → (tp = [] ∨ ∃ r, tp = b :: r) → (tq = [] ∨ ∃ r, tq = b :: r) → p ++ tp = q ++ tq → p = q ∧ tp = tq
  | [], [], _, _, _, _, _, _, h => ⟨rfl, h⟩
  | [], y :: q, tp, tq, _, hq, h1, _, h => by
    rw [List.nil_append, List.cons_append] at h
    rcases h1 with h1 | ⟨r, h1⟩
    · rw [h1] at h; cases h
    · rw [h1] at h
      injection h with h2
      exact absurd (by rw [h2]; exact List.mem_cons_self ..) hq
  | x :: p, [], tp, tq, hp, _, _, h1, h => by
    rw [List.nil_append, List.cons_append] at h
    rcases h1 with h1 | ⟨r, h1⟩
    · rw [h1] at h; cases h
    · rw [h1] at h
      injection h with h2
      exact absurd (by rw [h2]; exact List.mem_cons_self ..) hp
  | x :: p, y :: q, tp, tq, hp, hq, h1, h2, h => by
    rw [List.cons_append, List.cons_append] at h
    injection h with h3 h4
    obtain ⟨h5, h6⟩ := head_same (fun k => hp (List.mem_cons_of_mem _ k)) (fun k => hq (List.mem_cons_of_mem _ k)) h1 h2 h4
    exact ⟨by rw [h3, h5], h6⟩
theorem tail_cases (b : UInt8) (r : List (List UInt8)) : Lib.joinTail [b] r = [] ∨ ∃ t, Lib.joinTail [b] r = b :: t := by
  cases r with
  | nil => exact .inl rfl
  | cons a r => exact .inr ⟨_, tail_join b a r⟩
theorem parts_unique {b : UInt8} : ∀ {P Q : List (List UInt8)}, P ≠ [] → Q ≠ [] → (∀ p ∈ P, b ∉ p) → (∀ q ∈ Q, b ∉ q) → Lib.join P [b] = Lib.join Q [b] → P = Q
  | [], _, h, _, _, _, _ => absurd rfl h
  | _, [], _, h, _, _, _ => absurd rfl h
  | p :: P, q :: Q, _, _, hp, hq, h => by
    rw [Lib.join_cons, Lib.join_cons] at h
    obtain ⟨h1, h2⟩ := head_same (hp p (List.mem_cons_self ..)) (hq q (List.mem_cons_self ..)) (tail_cases b P) (tail_cases b Q) h
    subst h1
    cases P with
    | nil =>
      cases Q with
      | nil => rfl
      | cons a Q => rw [tail_join] at h2; cases h2
    | cons a P =>
      cases Q with
      | nil => rw [tail_join] at h2; cases h2
      | cons a' Q =>
        rw [tail_join, tail_join] at h2
        injection h2 with _ h3
        rw [parts_unique (List.cons_ne_nil _ _) (List.cons_ne_nil _ _) (fun x hx => hp x (List.mem_cons_of_mem _ hx)) (fun x hx => hq x (List.mem_cons_of_mem _ hx)) h3]
def flatB (ps : List ByteArray) (b : UInt8) : List UInt8 := (ps.map fun p => p.data.toList ++ [b]).flatten
theorem flatB_snoc (ps : List ByteArray) (p : ByteArray) (b : UInt8) : flatB (ps ++ [p]) b = flatB ps b ++ (p.data.toList ++ [b]) := by simp [flatB]
theorem tail_flatB (sep y : List UInt8) : ∀ (r : List (List UInt8)) (x : List UInt8), x ++ Lib.joinTail sep (r ++ [y]) = ((x :: r).map (· ++ sep)).flatten ++ y
  | [], x => by simp [Lib.joinTail]
  | a :: r, x => by
    have ih := tail_flatB sep y r a
    have e : Lib.joinTail sep ((a :: r) ++ [y]) = sep ++ (a ++ Lib.joinTail sep (r ++ [y])) := by simp [Lib.joinTail]
    rw [e, ih]
    simp
theorem join_flatB (ps : List ByteArray) (y : ByteArray) (b : UInt8) : Lib.join (byL (ps ++ [y])) [b] = flatB ps b ++ y.data.toList := by
  cases ps with
  | nil => simp [byL, flatB, Lib.join_one]
  | cons p r =>
    have e : byL (p :: r ++ [y]) = p.data.toList :: (byL r ++ [y.data.toList]) := by simp [byL]
    rw [e, Lib.join_cons, tail_flatB]
    simp [flatB, byL, List.map_map, Function.comp_def]
theorem toList_extract (s : ByteArray) (f k : Nat) : (s.extract f k).data.toList = (s.data.toList.drop f).take (k - f) := by
  rw [ByteArray.data_extract, Array.toList_extract, List.extract_eq_take_drop]
theorem parts_inv (s : ByteArray) (b : UInt8) : ∀ k, k ≤ s.size → (partsTo s b k).2 ≤ k ∧ flatB (partsTo s b k).1 b = s.data.toList.take (partsTo s b k).2 ∧
    (∀ p ∈ (partsTo s b k).1, b ∉ p.data.toList) ∧ (∀ j, (partsTo s b k).2 ≤ j → j < k → s.data.toList.getD j 0 ≠ b)
  | 0, _ => ⟨Nat.le_refl _, by simp [partsTo, flatB], fun p hp => by simp [partsTo] at hp, fun j _ h => by omega⟩
  | k + 1, hk => by
    obtain ⟨h1, h2, h3, h4⟩ := parts_inv s b k (by omega)
    have hkl : k < s.data.toList.length := by
      have : s.data.toList.length = s.size := Array.length_toList
      omega
    rw [partsTo]
    split
    · rename_i hb
      refine ⟨Nat.le_refl _, ?_, ?_, fun j h5 h6 => by simp at h5; omega⟩
      · show flatB ((partsTo s b k).1 ++ [s.extract (partsTo s b k).2 k]) b = s.data.toList.take (k + 1)
        rw [flatB_snoc, h2, toList_extract, List.take_succ_eq_append_getElem hkl]
        have e : s.data.toList[k] = b := by rw [← hb, List.getD_eq_getElem?_getD, List.getElem?_eq_getElem hkl]; rfl
        rw [e, ← List.append_assoc]
        congr 1
        have := List.take_append_drop (partsTo s b k).2 (s.data.toList.take k)
        rw [List.take_take, Nat.min_eq_left h1, List.drop_take] at this
        exact this
      · intro p hp
        rcases List.mem_append.1 hp with hp | hp
        · exact h3 p hp
        · rw [List.mem_singleton] at hp
          subst hp
          rw [toList_extract]
          intro hm
          obtain ⟨i, hi⟩ := List.getElem?_of_mem hm
          rw [List.getElem?_take] at hi
          split at hi
          · rename_i hlt
            rw [List.getElem?_drop] at hi
            refine h4 ((partsTo s b k).2 + i) (by omega) (by omega) ?_
            rw [List.getD_eq_getElem?_getD, hi]; rfl
          · simp at hi
    · rename_i hb
      refine ⟨by omega, h2, h3, fun j h5 h6 => ?_⟩
      by_cases e : j = k
      · subst e; exact hb
      · exact h4 j h5 (by omega)
theorem splitL_ne (s : ByteArray) (b : UInt8) : splitL s b ≠ [] := by simp [splitL]
theorem splitL_join (s : ByteArray) (b : UInt8) : Lib.join (byL (splitL s b)) [b] = s.data.toList := by
  obtain ⟨i1, i2, i3, i4⟩ := parts_inv s b s.size (Nat.le_refl _)
  rw [splitL, join_flatB, i2, Lib.extract_to_end, List.take_append_drop]
theorem splitL_no (s : ByteArray) (b : UInt8) : ∀ p ∈ splitL s b, b ∉ p.data.toList := by
  obtain ⟨i1, i2, i3, i4⟩ := parts_inv s b s.size (Nat.le_refl _)
  intro p hp
  rcases List.mem_append.1 hp with hp | hp
  · exact i3 p hp
  · rw [List.mem_singleton] at hp
    subst hp
    rw [Lib.extract_to_end]
    intro hm
    obtain ⟨i, hi⟩ := List.getElem?_of_mem hm
    rw [List.getElem?_drop] at hi
    have hlt := (List.getElem?_eq_some_iff.1 hi).1
    refine i4 ((partsTo s b s.size).2 + i) (by omega) (by simpa using hlt) ?_
    rw [List.getD_eq_getElem?_getD, hi]; rfl
theorem byL_inj {l l' : List ByteArray} (h : byL l = byL l') : l = l' := by
  have e : ∀ m : List ByteArray, (byL m).map (fun x => (⟨x.toArray⟩ : ByteArray)) = m := by
    intro m
    induction m with
    | nil => rfl
    | cons a m ih =>
      unfold byL at ih ⊢
      rw [List.map_cons, List.map_cons, ih, mk_data]
  rw [← e l, ← e l', h]
/-- The parts are the only ones. -/
theorem splitL_eq_of {s : ByteArray} {b : UInt8} {l : List ByteArray} (hne : l ≠ []) (hno : ∀ p ∈ l, b ∉ p.data.toList) (hj : Lib.join (byL l) [b] = s.data.toList) : splitL s b = l := by
  refine byL_inj (parts_unique (b := b) ?_ ?_ ?_ ?_ ?_)
  · simpa [byL] using splitL_ne s b
  · simpa [byL] using hne
  · intro p hp
    obtain ⟨q, hq, rfl⟩ := List.mem_map.1 hp
    exact splitL_no s b q hq
  · intro p hp
    obtain ⟨q, hq, rfl⟩ := List.mem_map.1 hp
    exact hno q hq
  · rw [splitL_join, hj]
theorem splitK_ok (b : UInt8) : ∀ (k : Nat) (l : List UInt8), l.count b = k → Lib.splitK [b] 0 k l ≠ [] ∧ (∀ p ∈ Lib.splitK [b] 0 k l, b ∉ p) ∧ Lib.join (Lib.splitK [b] 0 k l) [b] = l
  | 0, l, h => by
    refine ⟨by simp [Lib.splitK], fun p hp => ?_, ?_⟩
    · have : p = l := by simpa [Lib.splitK] using hp
      subst this
      exact List.count_eq_zero.1 h
    · show Lib.join [l] [b] = l
      exact Lib.join_one _ _
  | k + 1, l, h => by
    have hmem : b ∈ l := List.count_pos_iff.1 (by omega)
    obtain ⟨i, hi⟩ : ∃ i : Nat, Lib.indexByte l b = i := by
      have h1 := Lib.indexByte_ge l b
      have h2 : Lib.indexByte l b ≠ -1 := fun e => by
        obtain ⟨j, hj⟩ := List.getElem?_of_mem hmem
        exact Lib.indexByte_none e j hj
      exact Int.eq_ofNat_of_zero_le (by omega)
    obtain ⟨h3, h4⟩ := Lib.indexByte_some hi
    obtain ⟨hlt, hel⟩ := List.getElem?_eq_some_iff.1 h3
    have hidx : Lib.index l [b] = i := by rw [Lib.index_one, hi]
    have hun : Lib.splitK [b] 0 (k + 1) l = l.take i :: Lib.splitK [b] 0 k (l.drop (i + 1)) := by
      rw [Lib.splitK, hidx, if_neg (by simp)]
      simp
    have hno : b ∉ l.take i := fun hm => by
      obtain ⟨j, hj⟩ := List.getElem?_of_mem hm
      rw [List.getElem?_take] at hj
      split at hj
      · rename_i hjl
        exact h4 j hjl hj
      · cases hj
    have hl : l = l.take i ++ b :: l.drop (i + 1) := by
      conv => lhs; rw [← List.take_append_drop i l]
      rw [List.drop_eq_getElem_cons hlt, hel]
    have hc : (l.drop (i + 1)).count b = k := by
      have h5 : l.count b = (l.take i).count b + (b :: l.drop (i + 1)).count b := by
        conv => lhs; rw [hl]
        rw [List.count_append]
      rw [List.count_eq_zero.2 hno, List.count_cons_self] at h5
      omega
    obtain ⟨j1, j2, j3⟩ := splitK_ok b k (l.drop (i + 1)) hc
    rw [hun]
    refine ⟨List.cons_ne_nil _ _, fun p hp => ?_, ?_⟩
    · rcases List.mem_cons.1 hp with rfl | hp
      · exact hno
      · exact j2 p hp
    · rcases hs : Lib.splitK [b] 0 k (l.drop (i + 1)) with _ | ⟨a, r⟩
      · exact absurd hs j1
      · rw [join_two, ← hs, j3, ← hl]
/-- The library's parts are these. -/
theorem splitB_splitL (s : ByteArray) (b : UInt8) : Lib.splitB ⟨#[b]⟩ 0 (Lib.countB s ⟨#[b]⟩) s = splitL s b := by
  have hc : s.data.toList.count b = Lib.countB s ⟨#[b]⟩ := (Lib.count_one b s.data.toList).symm
  obtain ⟨h1, h2, h3⟩ := splitK_ok b _ s.data.toList hc
  have hd : byL (Lib.splitB ⟨#[b]⟩ 0 (Lib.countB s ⟨#[b]⟩) s) = Lib.splitK [b] 0 (Lib.countB s ⟨#[b]⟩) s.data.toList := Lib.splitB_data ⟨#[b]⟩ 0 _ s
  symm
  refine splitL_eq_of (fun e => ?_) (fun p hp => ?_) (by rw [hd, h3])
  · rw [e] at hd
    exact h1 hd.symm
  · exact h2 _ (by rw [← hd]; exact List.mem_map_of_mem hp)
/-- The sizes of the parts. -/
theorem splitL_sizes (s : ByteArray) (b : UInt8) : ((splitL s b).map fun p => p.size + 1).sum = s.size + 1 := by
  have h1 := join_len (splitL s b) ⟨#[b]⟩ rfl (by have := splitL_ne s b; intro e; exact this (List.length_eq_zero_iff.1 e))
  have h2 := splitL_join s b
  have h3 : (Lib.join (byL (splitL s b)) (⟨#[b]⟩ : ByteArray).data.toList).length = s.size := by
    rw [show (⟨#[b]⟩ : ByteArray).data.toList = [b] from rfl, h2]
    exact Array.length_toList
  have h4 : ∀ l : List ByteArray, (l.map fun p => p.size + 1).sum = l.length + szs l := by
    intro l
    unfold szs
    induction l with
    | nil => rfl
    | cons a l ih => simp only [List.map_cons, List.sum_cons, List.length_cons] at ih ⊢; omega
  have h5 : 0 < (splitL s b).length := by have := splitL_ne s b; exact List.length_pos_iff.2 this
  rw [h4]
  omega
theorem splitL_count (s : ByteArray) (b : UInt8) : (splitL s b).length ≤ s.size + 1 := by
  rw [← splitL_sizes s b]
  generalize splitL s b = l
  induction l with
  | nil => simp
  | cons a l ih => simp only [List.map_cons, List.sum_cons, List.length_cons]; omega
/-- No byte of that kind: one part. -/
theorem splitL_one {s : ByteArray} {b : UInt8} (h : b ∉ s.data.toList) : splitL s b = [s] :=
  splitL_eq_of (List.cons_ne_nil _ _) (fun p hp => by rw [List.mem_singleton] at hp; subst hp; exact h) (Lib.join_one _ _)
/-- The first part, and those of what stands behind it. -/
theorem splitL_first {s : ByteArray} {b : UInt8} {i : Nat} (hi : Lib.indexByte s.data.toList b = i) : splitL s b = s.extract 0 i :: splitL (s.extract (i + 1) s.size) b := by
  obtain ⟨h3, h4⟩ := Lib.indexByte_some hi
  obtain ⟨hlt, hel⟩ := List.getElem?_eq_some_iff.1 h3
  have e1 : (s.extract 0 i).data.toList = s.data.toList.take i := by rw [toList_extract]; simp
  have e2 : (s.extract (i + 1) s.size).data.toList = s.data.toList.drop (i + 1) := Lib.extract_to_end _ _
  refine splitL_eq_of (List.cons_ne_nil _ _) (fun p hp => ?_) ?_
  · rcases List.mem_cons.1 hp with rfl | hp
    · rw [e1]
      intro hm
      obtain ⟨j, hj⟩ := List.getElem?_of_mem hm
      rw [List.getElem?_take] at hj
      split at hj
      · rename_i hjl
        exact h4 j hjl hj
      · cases hj
    · exact splitL_no _ _ p hp
  · have h5 := splitL_join (s.extract (i + 1) s.size) b
    rcases hs : splitL (s.extract (i + 1) s.size) b with _ | ⟨a, r⟩
    · exact absurd hs (splitL_ne _ _)
    · rw [hs] at h5
      show Lib.join ((s.extract 0 i).data.toList :: a.data.toList :: byL r) [b] = _
      rw [join_two]
      rw [show a.data.toList :: byL r = byL (a :: r) from rfl, h5, e1, e2]
      conv => rhs; rw [← List.take_append_drop i s.data.toList]
      rw [List.drop_eq_getElem_cons hlt, hel]
/-- A joined text is split into its parts. -/
theorem split_joinL {b : Int} (hb : 0 ≤ b ∧ b < 256) {ts : List (List Int)} (hne : ts ≠ []) (hc : ∀ t ∈ ts, ∀ x ∈ t, 0 ≤ x ∧ x < 256 ∧ x ≠ b) : splitL (strOfNums (joinL b ts)) (UInt8.ofNat b.toNat) = ts.map strOfNums := by
  refine splitL_eq_of (by simpa using hne) (fun p hp => ?_) ?_
  · obtain ⟨t, ht, rfl⟩ := List.mem_map.1 hp
    rw [strOfNums_data]
    intro hm
    obtain ⟨x, hx, e⟩ := List.mem_map.1 hm
    obtain ⟨h1, h2, h3⟩ := hc t ht x hx
    have e2 := congrArg UInt8.toNat e
    rw [UInt8.toNat_ofNat', UInt8.toNat_ofNat', Nat.mod_eq_of_lt (by omega), Nat.mod_eq_of_lt (by omega)] at e2
    omega
  · rw [← joinB_joinL]
    rfl
end Go.Proofs.YtcogdogiceokdaaDoor
