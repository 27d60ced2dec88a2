/- Plain: what a text says about claims. -/
import Derived.Test.YtcogdogiceokdaaDoorRpP
namespace Go.Proofs.YtcogdogiceokdaaDoor
open Go.RowKit

/-- Numbers with commas between, as they are read. -/
def rdL (s : ByteArray) : List Int := if s.size = 0 then [] else (splitL s 44).map fun w => (readT w).1
def okL (s : ByteArray) : Bool := decide (s.size = 0) || (splitL s 44).all fun w => (readT w).2
def ptB (s : ByteArray) (j : Nat) : ByteArray := (splitL s 58).getD j ByteArray.empty
def abB (s : ByteArray) : List ByteArray := splitL (ptB s 0) 32
def rdC (s : ByteArray) : Dat := ([(readT ((abB s).getD 0 ByteArray.empty)).1, (readT ((abB s).getD 1 ByteArray.empty)).1], [rdL (ptB s 1), rdL (ptB s 2)])
def shp (s : ByteArray) : Bool := decide ((splitL s 58).length = 3) && decide ((abB s).length = 2)
def okC (s : ByteArray) : Bool := shp s && ((readT ((abB s).getD 0 ByteArray.empty)).2 && (readT ((abB s).getD 1 ByteArray.empty)).2) && (okL (ptB s 1) && okL (ptB s 2))
def wordsB (s : ByteArray) : List ByteArray := if s.size = 0 then [] else splitL s 59
def dsB (s : ByteArray) : List Dat := (wordsB s).map rdC
/-- What is read. -/
def readP (s : ByteArray) : List Dat × Bool :=
  if s.size ≤ 4000 ∧ (wordsB s).all shp = true ∧ told (dsB s) = true ∧ strOfNums (proofT (dsB s)) = s then (dsB s, true) else ([], false)
theorem readP_yes {s : ByteArray} (h1 : s.size ≤ 4000) (h2 : (wordsB s).all shp = true) (h3 : told (dsB s) = true) (h4 : strOfNums (proofT (dsB s)) = s) : readP s = (dsB s, true) := if_pos ⟨h1, h2, h3, h4⟩
theorem readP_no {s : ByteArray} (h : ¬ (s.size ≤ 4000 ∧ (wordsB s).all shp = true ∧ told (dsB s) = true ∧ strOfNums (proofT (dsB s)) = s)) : readP s = ([], false) := if_neg h
theorem readP_long {s : ByteArray} (h : ¬ s.size ≤ 4000) : readP s = ([], false) := readP_no fun k => h k.1
theorem readP_shp {s : ByteArray} {k : Nat} {x : ByteArray} (hk : (wordsB s)[k]? = some x) (h : shp x = false) : readP s = ([], false) := readP_no fun j => by
  have := List.all_eq_true.1 j.2.1 x (List.mem_of_getElem? hk)
  rw [h] at this
  cases this
theorem readP_told {s : ByteArray} (h : told (dsB s) = false) : readP s = ([], false) := readP_no fun k => by rw [h] at k; exact Bool.noConfusion k.2.2.1
theorem readP_text {s : ByteArray} (h : ¬ strOfNums (proofT (dsB s)) = s) : readP s = ([], false) := readP_no fun k => h k.2.2.2

theorem digB_in : ∀ (u : Nat), ∀ x ∈ digB u, 48 ≤ x ∧ x ≤ 57 := by
  intro u
  induction u using Nat.strongRecOn with
  | _ u ih =>
    by_cases h : u < 10
    · rw [digB_lt h]
      intro x hx
      rw [List.mem_singleton] at hx
      omega
    · rw [digB_ge h]
      intro x hx
      rcases List.mem_append.1 hx with hx | hx
      · exact ih (u / 10) (by omega) x hx
      · rw [List.mem_singleton] at hx
        omega
theorem numB_in {n : Int} (h : 0 ≤ n) : ∀ x ∈ numB n, 48 ≤ x ∧ x ≤ 57 := by
  unfold numB
  rw [if_neg (by omega)]
  exact digB_in _
theorem numB_in' (n : Int) : ∀ x ∈ numB n, 45 ≤ x ∧ x ≤ 57 := by
  unfold numB
  split
  · intro x hx
    rcases List.mem_cons.1 hx with rfl | hx
    · omega
    · have := digB_in _ x hx; omega
  · intro x hx
    have := digB_in _ x hx; omega
theorem joinL_in {b : Int} {lo hi : Int} (hb : lo ≤ b ∧ b ≤ hi) : ∀ {ts : List (List Int)}, (∀ t ∈ ts, ∀ x ∈ t, lo ≤ x ∧ x ≤ hi) → ∀ x ∈ joinL b ts, lo ≤ x ∧ x ≤ hi
  | [], _, x, hx => by simp [joinL] at hx
  | t :: ts, h, x, hx => by
    unfold joinL at hx
    rcases List.mem_append.1 hx with hx | hx
    · exact h t (List.mem_cons_self ..) x hx
    · obtain ⟨u, hu, hx⟩ := List.mem_flatMap.1 hx
      rcases List.mem_cons.1 hx with rfl | hx
      · exact hb
      · exact h u (List.mem_cons_of_mem _ hu) x hx
theorem numsT_in {l : List Int} (h : ∀ x ∈ l, 0 ≤ x ∧ x < 1000) : ∀ x ∈ numsT l, 44 ≤ x ∧ x ≤ 57 :=
  joinL_in (by omega) fun t ht x hx => by
    obtain ⟨n, hn, rfl⟩ := List.mem_map.1 ht
    have := numB_in (h n hn).1 x hx
    omega
theorem claimL_join (a b : Int) (xs ys : List Int) : claimL a b xs ys = joinL 58 [joinL 32 [numB a, numB b], numsT xs, numsT ys] := by
  simp [claimL, joinL]
theorem claimL_in {a b : Int} {xs ys : List Int} (ha : 0 ≤ a) (hb : 0 ≤ b) (h : ∀ x ∈ xs, 0 ≤ x ∧ x < 1000) (h' : ∀ x ∈ ys, 0 ≤ x ∧ x < 1000) : ∀ x ∈ claimL a b xs ys, 32 ≤ x ∧ x ≤ 58 := by
  rw [claimL_join]
  refine joinL_in (by omega) fun t ht x hx => ?_
  simp only [List.mem_cons, List.not_mem_nil, or_false] at ht
  rcases ht with rfl | rfl | rfl
  · refine joinL_in (by omega) (fun t ht x hx => ?_) x hx
    simp only [List.mem_cons, List.not_mem_nil, or_false] at ht
    rcases ht with rfl | rfl
    · have := numB_in ha x hx; omega
    · have := numB_in hb x hx; omega
  · have := numsT_in h x hx; omega
  · have := numsT_in h' x hx; omega
theorem readT_num {n : Int} (h : 0 ≤ n ∧ n < 1000) : (readT (strOfNums (numB n))).2 = true := by
  rw [readT_some (numOf_some.2 ⟨by omega, by omega, rfl⟩)]
theorem okL_nums {l : List Int} (h : ∀ x ∈ l, 0 ≤ x ∧ x < 1000) : okL (strOfNums (numsT l)) = true := by
  unfold okL
  by_cases e : l = []
  · subst e
    rfl
  · have h1 := split_joinL (b := 44) (by omega) (ts := l.map numB) (by simpa using e) (fun t ht x hx => by
      obtain ⟨n, hn, rfl⟩ := List.mem_map.1 ht
      have := numB_in (h n hn).1 x hx
      omega)
    rw [Bool.or_eq_true]
    right
    rw [show (44 : UInt8) = UInt8.ofNat (44 : Int).toNat from rfl]
    unfold numsT
    rw [h1, List.all_eq_true]
    intro w hw
    obtain ⟨t, ht, rfl⟩ := List.mem_map.1 hw
    obtain ⟨n, hn, rfl⟩ := List.mem_map.1 ht
    exact readT_num (h n hn)
theorem okC_claim {a b : Int} {xs ys : List Int} (ha : 0 ≤ a ∧ a < 1000) (hb : 0 ≤ b ∧ b < 1000) (h : ∀ x ∈ xs, 0 ≤ x ∧ x < 1000) (h' : ∀ x ∈ ys, 0 ≤ x ∧ x < 1000) : okC (strOfNums (claimL a b xs ys)) = true := by
  have h1 := split_joinL (b := 58) (by omega) (ts := [joinL 32 [numB a, numB b], numsT xs, numsT ys]) (List.cons_ne_nil _ _) (fun t ht x hx => by
    simp only [List.mem_cons, List.not_mem_nil, or_false] at ht
    rcases ht with rfl | rfl | rfl
    · have : 32 ≤ x ∧ x ≤ 57 := by
        refine joinL_in (by omega) (fun t ht x hx => ?_) x hx
        simp only [List.mem_cons, List.not_mem_nil, or_false] at ht
        rcases ht with rfl | rfl
        · have := numB_in ha.1 x hx; omega
        · have := numB_in hb.1 x hx; omega
      omega
    · have := numsT_in h x hx; omega
    · have := numsT_in h' x hx; omega)
  rw [← claimL_join, show UInt8.ofNat (58 : Int).toNat = (58 : UInt8) from rfl] at h1
  have h2 := split_joinL (b := 32) (by omega) (ts := [numB a, numB b]) (List.cons_ne_nil _ _) (fun t ht x hx => by
    simp only [List.mem_cons, List.not_mem_nil, or_false] at ht
    rcases ht with rfl | rfl
    · have := numB_in ha.1 x hx; omega
    · have := numB_in hb.1 x hx; omega)
  rw [show UInt8.ofNat (32 : Int).toNat = (32 : UInt8) from rfl] at h2
  have hab : abB (strOfNums (claimL a b xs ys)) = [strOfNums (numB a), strOfNums (numB b)] := by
    unfold abB ptB
    rw [h1]
    exact h2
  have hp1 : ptB (strOfNums (claimL a b xs ys)) 1 = strOfNums (numsT xs) := by unfold ptB; rw [h1]; rfl
  have hp2 : ptB (strOfNums (claimL a b xs ys)) 2 = strOfNums (numsT ys) := by unfold ptB; rw [h1]; rfl
  unfold okC shp
  rw [hab, h1, hp1, hp2, okL_nums h, okL_nums h']
  simp only [List.getD_cons_zero, List.getD_cons_succ, readT_num ha, readT_num hb]
  rfl
theorem dat_two (x : ByteArray) : rdC x = ([(readT ((abB x).getD 0 ByteArray.empty)).1, (readT ((abB x).getD 1 ByteArray.empty)).1], [rdL (ptB x 1), rdL (ptB x 2)]) := rfl
/-- A word that does not read well: nothing is read. -/
theorem readP_bad {s : ByteArray} {k : Nat} {x : ByteArray} (hk : (wordsB s)[k]? = some x) (hx : okC x = false) : readP s = ([], false) := by
  refine readP_no fun ⟨_, _, ht, he⟩ => ?_
  have hw : wordsB s = splitL s 59 := by
    unfold wordsB at hk ⊢
    split
    · rename_i h; rw [if_pos h] at hk; simp at hk
    · rfl
  have hne : dsB s ≠ [] := by
    unfold dsB
    rw [hw]
    simpa using splitL_ne s 59
  obtain ⟨h1, h2, _⟩ := told_iff.1 ht
  have hgood : ∀ d ∈ dsB s, okC (strOfNums (claimT d)) = true ∧ ∀ x ∈ claimT d, 32 ≤ x ∧ x ≤ 58 := by
    intro d hd
    obtain ⟨j, hj⟩ := List.getElem?_of_mem hd
    obtain ⟨y, hy, rfl⟩ := List.mem_map.1 hd
    rw [dat_two] at hj ⊢
    have hs := shape_small h1 hj
    have hr := h2 j _ hj
    unfold rngD at hr
    rw [Bool.and_eq_true] at hr
    have r1 := inB_true.1 hr.1
    have r2 := inB_true.1 hr.2
    simp only [List.getD_cons_zero, List.getD_cons_succ] at r1 r2
    rw [claimT_eq]
    exact ⟨okC_claim ⟨by omega, by omega⟩ ⟨by omega, by omega⟩ hs.1 hs.2, claimL_in (by omega) (by omega) hs.1 hs.2⟩
  have h3 := split_joinL (b := 59) (by omega) (ts := (dsB s).map claimT) (by simpa using hne) (fun t ht x hx => by
    obtain ⟨d, hd, rfl⟩ := List.mem_map.1 ht
    have := (hgood d hd).2 x hx
    omega)
  rw [show UInt8.ofNat (59 : Int).toNat = (59 : UInt8) from rfl] at h3
  unfold proofT at he
  rw [he, ← hw] at h3
  have h4 := List.mem_of_getElem? hk
  rw [h3] at h4
  obtain ⟨t, ht, rfl⟩ := List.mem_map.1 h4
  obtain ⟨d, hd, rfl⟩ := List.mem_map.1 ht
  rw [(hgood d hd).1] at hx
  cases hx
theorem okC_shp {x : ByteArray} (h : okC x = true) : shp x = true := by
  unfold okC at h
  rw [Bool.and_eq_true, Bool.and_eq_true] at h
  exact h.1.1
/-- All numbers together. -/
theorem rdL_len (s : ByteArray) : (rdL s).length ≤ s.size + 1 := by
  unfold rdL
  split
  · simp
  · rw [List.length_map]; exact splitL_count s 44
theorem rdC_len {x : ByteArray} (h : shp x = true) : (rdL (ptB x 1)).length + (rdL (ptB x 2)).length ≤ x.size + 1 := by
  unfold shp at h
  rw [Bool.and_eq_true, decide_eq_true_eq] at h
  have h1 := splitL_sizes x 58
  have a := rdL_len (ptB x 1)
  have b := rdL_len (ptB x 2)
  unfold ptB at a b ⊢
  match hl : splitL x 58, h.1 with
  | [p, q, r], _ =>
    rw [hl] at h1 a b
    simp only [List.map_cons, List.map_nil, List.sum_cons, List.sum_nil, List.getD_cons_zero, List.getD_cons_succ] at h1 a b ⊢
    omega
theorem flat_words : ∀ {l : List ByteArray}, l.all shp = true → (flat (l.map rdC)).length ≤ (l.map fun p => p.size + 1).sum
  | [], _ => by simp [flat]
  | x :: l, h => by
    rw [List.all_cons, Bool.and_eq_true] at h
    have h1 := rdC_len h.1
    have h2 := flat_words h.2
    have e : flat ((x :: l).map rdC) = (rdL (ptB x 1) ++ rdL (ptB x 2)) ++ flat (l.map rdC) := by simp [flat, rdC]
    rw [e, List.length_append, List.length_append, List.map_cons, List.sum_cons]
    omega
theorem wordsB_len (s : ByteArray) : (wordsB s).length ≤ s.size + 1 := by
  unfold wordsB
  split
  · simp
  · exact splitL_count s 59
theorem dsB_flat {s : ByteArray} (h : (wordsB s).all shp = true) : (flat (dsB s)).length ≤ s.size + 1 := by
  have h1 := flat_words h
  refine Nat.le_trans h1 ?_
  unfold wordsB
  split
  · simp
  · rw [splitL_sizes]; exact Nat.le_refl _
theorem all_take {l : List ByteArray} (h : ∀ (j : Nat) (x : ByteArray), l[j]? = some x → shp x = true) : l.all shp = true := by
  rw [List.all_eq_true]
  intro x hx
  obtain ⟨j, hj⟩ := List.getElem?_of_mem hx
  exact h j x hj
/-- Cut at the first blank. -/
theorem cut_no {s : ByteArray} (h : Lib.indexByte s.data.toList 32 = -1) : ¬ (splitL s 32).length = 2 := by
  rw [splitL_one (fun hm => by
    obtain ⟨j, hj⟩ := List.getElem?_of_mem hm
    exact Lib.indexByte_none h j hj)]
  simp
theorem readT_blank {s : ByteArray} (h : (32 : UInt8) ∈ s.data.toList) : (readT s).2 = false := by
  cases hn : numOf s
  · rw [readT_none hn]
  · rename_i n
    obtain ⟨_, _, he⟩ := numOf_some.1 hn
    rw [← he, strOfNums_data] at h
    obtain ⟨x, hx, e⟩ := List.mem_map.1 h
    have h1 := numB_in' n x hx
    have e2 := congrArg UInt8.toNat e
    rw [UInt8.toNat_ofNat', Nat.mod_eq_of_lt (by omega)] at e2
    have e3 : (32 : UInt8).toNat = 32 := rfl
    omega
theorem cut_yes {s : ByteArray} {i : Nat} (h : Lib.indexByte s.data.toList 32 = i) :
    splitL s 32 = [s.extract 0 i, s.extract (i + 1) s.size] ∨ (¬ (splitL s 32).length = 2 ∧ (readT (s.extract (i + 1) s.size)).2 = false) := by
  have h1 := splitL_first h
  by_cases hm : (32 : UInt8) ∈ (s.extract (i + 1) s.size).data.toList
  · refine .inr ⟨?_, readT_blank hm⟩
    rw [h1, List.length_cons]
    intro e
    have hl : (splitL (s.extract (i + 1) s.size) 32).length = 1 := by omega
    obtain ⟨p, hp⟩ := List.length_eq_one_iff.1 hl
    have h2 := splitL_join (s.extract (i + 1) s.size) 32
    have h3 := splitL_no (s.extract (i + 1) s.size) 32
    rw [hp] at h2 h3
    have h4 : p.data.toList = (s.extract (i + 1) s.size).data.toList := by
      rw [← h2]
      exact (Lib.join_one _ _).symm
    exact h3 p (List.mem_singleton.2 rfl) (by rw [h4]; exact hm)
  · left
    rw [h1, splitL_one hm]
end Go.Proofs.YtcogdogiceokdaaDoor
