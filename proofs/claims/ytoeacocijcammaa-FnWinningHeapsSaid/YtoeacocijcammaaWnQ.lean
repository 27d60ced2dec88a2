/- Positions of heaps behind a move, as the reference takes them: empty heaps and all. -/
import Derived.Test.YtoeacocijcammaaWnP
namespace Go.Proofs.Ytoeacocijcammaa

def candAtR (xs hs : List Int) (i : Nat) : List (List Int) := if 0 < i ∧ hs.getD i 0 = hs.getD (i - 1) 0 then [] else (moves xs (hs.getD i 0).toNat).map fun m => srtR [] (hs.take i ++ hs.drop (i + 1) ++ m)
def candToR (xs hs : List Int) : Nat → List (List Int)
  | 0 => []
  | i + 1 => candToR xs hs i ++ candAtR xs hs i
def candR (xs hs : List Int) : List (List Int) := candToR xs hs hs.length
theorem candToR_mem {xs hs : List Int} {p : List Int} : ∀ {k}, p ∈ candToR xs hs k ↔ ∃ i, i < k ∧ p ∈ candAtR xs hs i
  | 0 => by simp [candToR]
  | k + 1 => by
    rw [candToR, List.mem_append, candToR_mem (k := k)]
    constructor
    · rintro (⟨i, hi, h⟩ | h)
      · exact ⟨i, by omega, h⟩
      · exact ⟨k, by omega, h⟩
    · rintro ⟨i, hi, h⟩
      rcases Nat.lt_or_ge i k with h1 | h1
      · exact .inl ⟨i, h1, h⟩
      · obtain rfl : i = k := by omega
        exact .inr h
theorem mvs_len18 {xs : List Int} (h : Nat) (hx : xs.length ≤ 6) : (mvs xs h).length ≤ 18 * h := by
  rcases Nat.eq_zero_or_pos h with h0 | h0
  · subst h0; simp [mvs, mvTo]
  · have h1 := mvTo_len xs h (min xs.length h)
    have h2 : min xs.length h * (h + 2) ≤ 6 * (h + 2) := Nat.mul_le_mul (by omega) (Nat.le_refl _)
    unfold mvs; omega
theorem moves_len18 {xs : List Int} (h : Nat) (hx : xs.length ≤ 6) : (moves xs h).length ≤ 18 * h := by
  have h1 := putAll_len (mvs xs h) []
  have h2 := mvs_len18 h hx
  unfold moves; simp at h1; omega
theorem candToR_len {xs hs : List Int} (hx : xs.length ≤ 6) (hp : ∀ x ∈ hs, 0 ≤ x) : ∀ k, k ≤ hs.length → ((candToR xs hs k).length : Int) ≤ 18 * (hs.take k).sum
  | 0, _ => by simp [candToR]
  | k + 1, hk => by
    have ih := candToR_len hx hp k (by omega)
    have h1 : (candAtR xs hs k).length ≤ 18 * (hs.getD k 0).toNat := by
      unfold candAtR
      split
      · simp
      · rw [List.length_map]; exact moves_len18 _ hx
    have h2 : 0 ≤ hs.getD k 0 := hp _ (by have hk2 : k < hs.length := by omega
                                          simp [hk2])
    have h3 : (hs.take (k + 1)).sum = (hs.take k).sum + hs.getD k 0 := by
      have hk2 : k < hs.length := by omega
      rw [List.take_succ_eq_append_getElem hk2, List.sum_append]; simp [hk2]
    rw [candToR, List.length_append, h3]
    omega
theorem candTo_len {xs hs : List Int} (hx : xs.length ≤ 6) (hp : ∀ x ∈ hs, 0 ≤ x) : ∀ k, k ≤ hs.length → ((candTo xs hs k).length : Int) ≤ 18 * (hs.take k).sum
  | 0, _ => by simp [candTo]
  | k + 1, hk => by
    have ih := candTo_len hx hp k (by omega)
    have h1 : (candAt xs hs k).length ≤ 18 * (hs.getD k 0).toNat := by
      unfold candAt
      split
      · simp
      · rw [List.length_map]; exact moves_len18 _ hx
    have h2 : 0 ≤ hs.getD k 0 := hp _ (by have hk2 : k < hs.length := by omega
                                          simp [hk2])
    have h3 : (hs.take (k + 1)).sum = (hs.take k).sum + hs.getD k 0 := by
      have hk2 : k < hs.length := by omega
      rw [List.take_succ_eq_append_getElem hk2, List.sum_append]; simp [hk2]
    rw [candTo, List.length_append, h3]
    omega
theorem cand_facts {xs hs p : List Int} (h : p ∈ cand xs hs) : ∃ i m, i < hs.length ∧ m ∈ moves xs (hs.getD i 0).toNat ∧ p = aft hs i m := by
  obtain ⟨i, hi, h1⟩ := candTo_mem.1 h
  unfold candAt at h1
  split at h1
  · simp at h1
  · obtain ⟨m, hm, rfl⟩ := List.mem_map.1 h1
    exact ⟨i, m, hi, hm, rfl⟩
theorem cand_len {xs hs p : List Int} (h : p ∈ cand xs hs) : p.length ≤ hs.length + 1 := by
  obtain ⟨i, m, hi, hm, rfl⟩ := cand_facts h
  have := (mvs_facts (moves_mem.1 hm)).1
  rw [aft_len m hi]; omega
theorem sum_take_le {hs : List Int} (hp : ∀ x ∈ hs, 0 ≤ x) (k : Nat) : (hs.take k).sum ≤ hs.sum := by
  have h1 : hs.sum = (hs.take k).sum + (hs.drop k).sum := by rw [← List.sum_append, List.take_append_drop]
  have h2 : ∀ (l : List Int), (∀ x ∈ l, 0 ≤ x) → 0 ≤ l.sum := by
    intro l
    induction l with
    | nil => intro _; simp
    | cons a l ih => intro h; have := h a (by simp); have := ih (fun x hx => h x (by simp [hx])); simp; omega
  have := h2 (hs.drop k) (fun x hx => hp x (List.mem_of_mem_drop hx))
  omega
theorem moves_zero (xs : List Int) : moves xs 0 = [] := by simp [moves, mvs, mvTo, putAll]
/-- A position that does not fall: its empty heaps first. -/
theorem up_split : ∀ {hs : List Int}, Up hs → (∀ x ∈ hs, 0 ≤ x) → ∃ z, hs = List.replicate z 0 ++ fil hs ∧ (∀ x ∈ fil hs, 0 < x)
  | [], _, _ => ⟨0, rfl, fun x hx => by simp [fil] at hx⟩
  | a :: l, h, hp => by
    have h' := List.pairwise_cons.1 h
    obtain ⟨z, e, hz⟩ := up_split h'.2 (fun x hx => hp x (by simp [hx]))
    have ha := hp a (by simp)
    by_cases h0 : 0 < a
    · refine ⟨0, ?_, fun x hx => (fil_mem.1 hx).2⟩
      simp only [List.replicate_zero, List.nil_append]
      symm
      unfold fil
      rw [List.filter_eq_self]
      intro x hx
      rcases List.mem_cons.1 hx with rfl | hx
      · simpa using h0
      · have := h'.1 x hx; simp; omega
    · obtain rfl : a = 0 := by omega
      refine ⟨z + 1, ?_, fun x hx => (fil_mem.1 hx).2⟩
      have : fil (0 :: l) = fil l := by simp [fil]
      rw [this, List.replicate_succ, List.cons_append, ← e]
theorem fil_app (a b : List Int) : fil (a ++ b) = fil a ++ fil b := List.filter_append _ _
theorem fil_rep (z : Nat) : fil (List.replicate z 0) = [] := by simp [fil]
theorem fil_id {l : List Int} (h : ∀ x ∈ l, 0 < x) : fil l = l := by unfold fil; rw [List.filter_eq_self]; intro x hx; simpa using h x hx
theorem candAtR_zero {xs : List Int} {z i : Nat} {F : List Int} (h : i < z) : candAtR xs (List.replicate z 0 ++ F) i = [] := by
  have : (List.replicate z (0 : Int) ++ F).getD i 0 = 0 := by simp [List.getD, List.getElem?_append, h]
  unfold candAtR
  split
  · rfl
  · rw [this]; simp [moves_zero]
theorem candAtR_pos {xs : List Int} {z j : Nat} {F : List Int} (hF : ∀ x ∈ F, 0 < x) (hj : j < F.length) : candAtR xs (List.replicate z 0 ++ F) (z + j) = candAt xs F j := by
  have e1 : ∀ m, (List.replicate z (0 : Int) ++ F).getD (z + m) 0 = F.getD m 0 := by
    intro m; simp [List.getD, List.getElem?_append_right]
  have e2 : ∀ m, (List.replicate z (0 : Int) ++ F).take (z + m) = List.replicate z 0 ++ F.take m := by intro m; simp [List.take_append]
  have e3 : ∀ m, (List.replicate z (0 : Int) ++ F).drop (z + m) = F.drop m := by intro m; simp [List.drop_append]
  have hpos : 0 < F.getD j 0 := hF _ (by simp [hj])
  have hc : (0 < z + j ∧ (List.replicate z (0 : Int) ++ F).getD (z + j) 0 = (List.replicate z (0 : Int) ++ F).getD (z + j - 1) 0) ↔ (0 < j ∧ F.getD (j - 1) 0 = F.getD j 0) := by
    rcases Nat.eq_zero_or_pos j with h0 | h0
    · subst h0
      refine ⟨fun h => ?_, fun h => absurd h.1 (by omega)⟩
      exfalso
      obtain ⟨h1, h2⟩ := h
      rw [e1] at h2
      have : (List.replicate z (0 : Int) ++ F).getD (z + 0 - 1) 0 = 0 := by
        simp [List.getD, List.getElem?_append, show z - 1 < z by omega]
      rw [this] at h2; omega
    · rw [e1, show z + j - 1 = z + (j - 1) by omega, e1]
      exact ⟨fun h => ⟨h0, h.2.symm⟩, fun h => ⟨by omega, h.2.symm⟩⟩
  unfold candAtR candAt
  by_cases h : 0 < j ∧ F.getD (j - 1) 0 = F.getD j 0
  · rw [if_pos (hc.2 h), if_pos h]
  · rw [if_neg (fun k => h (hc.1 k)), if_neg h, e1]
    apply List.map_congr_left
    intro m hm
    have hm1 := (mvs_facts (moves_mem.1 hm)).2.2
    rw [e2, show z + j + 1 = z + (j + 1) by omega, e3, srtR_eq (by
      intro x hx
      simp only [List.mem_append] at hx
      rcases hx with ((hx | hx) | hx) | hx
      · have := List.eq_of_mem_replicate hx; omega
      · have := hF x (List.mem_of_mem_take hx); omega
      · have := hF x (List.mem_of_mem_drop hx); omega
      · have := hm1 x hx; omega)]
    rw [fil_app, fil_app, fil_app, fil_rep, List.nil_append, fil_id (fun x hx => hF x (List.mem_of_mem_take hx)), fil_id (fun x hx => hF x (List.mem_of_mem_drop hx)), fil_id (fun x hx => by have := hm1 x hx; omega)]
    rfl
theorem candR_mem {xs hs : List Int} (h : Up hs) (hp : ∀ x ∈ hs, 0 ≤ x) {p : List Int} : p ∈ candR xs hs ↔ p ∈ cand xs (fil hs) := by
  obtain ⟨z, e, hF⟩ := up_split h hp
  generalize fil hs = F at *
  subst e
  unfold candR cand
  rw [candToR_mem, candTo_mem]
  constructor
  · rintro ⟨i, hi, hm⟩
    rcases Nat.lt_or_ge i z with h1 | h1
    · rw [candAtR_zero h1] at hm; simp at hm
    · obtain ⟨j, rfl⟩ : ∃ j, i = z + j := ⟨i - z, by omega⟩
      have hj : j < F.length := by simp at hi; omega
      rw [candAtR_pos hF hj] at hm
      exact ⟨j, hj, hm⟩
  · rintro ⟨j, hj, hm⟩
    exact ⟨z + j, by simp; omega, by rw [candAtR_pos hF hj]; exact hm⟩
/-- What the reference finds. -/
theorem winR_eq {xs hs : List Int} (h : Up hs) (hp : ∀ x ∈ hs, 0 ≤ x) : putAll [] ((candR xs hs).filter (val0 xs)) = win xs (fil hs) :=
  Asc.ext (putAll_asc Asc.nil) ((rch_asc xs (fil hs)).filter _) fun p => by
    rw [putAll_mem]
    unfold win
    simp only [List.mem_filter, rch_mem, List.not_mem_nil, false_or, candR_mem h hp]
end Go.Proofs.Ytoeacocijcammaa
