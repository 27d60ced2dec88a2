/- A play of heaps: the plain law. -/
import Derived.Test.YtoeacocijcammaaWnQ
namespace Go.Proofs.Ytoeacocijcammaa

/-- The first move of the first heap from place i on that has one. -/
def fstF (xs F : List Int) : Nat → Nat → Option (List Int)
  | 0, _ => none
  | r + 1, i => match moves xs (F.getD i 0).toNat with
    | [] => fstF xs F r (i + 1)
    | m :: _ => some (aft F i m)
def firstMv (xs F : List Int) : Option (List Int) := fstF xs F F.length 0
theorem fstF_none {xs F : List Int} : ∀ {r i : Nat}, fstF xs F r i = none → ∀ j, i ≤ j → j < i + r → moves xs (F.getD j 0).toNat = []
  | 0, i, _, j, h1, h2 => absurd h2 (by omega)
  | r + 1, i, h, j, h1, h2 => by
    unfold fstF at h
    split at h
    · rename_i e
      by_cases hj : j = i
      · subst hj; exact e
      · exact fstF_none h j (by omega) (by omega)
    · cases h
theorem fstF_some {xs F p : List Int} : ∀ {r i : Nat}, fstF xs F r i = some p → ∃ j m, i ≤ j ∧ j < i + r ∧ m ∈ moves xs (F.getD j 0).toNat ∧ p = aft F j m
  | 0, i, h => by cases h
  | r + 1, i, h => by
    unfold fstF at h
    split at h
    · obtain ⟨j, m, h1, h2, h3⟩ := fstF_some h
      exact ⟨j, m, by omega, by omega, h3⟩
    · rename_i m l e
      cases h
      exact ⟨i, m, Nat.le_refl _, by omega, by rw [e]; simp, rfl⟩
theorem fst_win {xs F : List Int} (h : firstMv xs F = none) : win xs F = [] := by
  have hc : cand xs F = [] := by
    cases e : cand xs F with
    | nil => rfl
    | cons p l =>
      obtain ⟨i, m, hi, hm, _⟩ := cand_facts (p := p) (xs := xs) (hs := F) (by rw [e]; simp)
      rw [fstF_none h i (Nat.zero_le _) (by omega)] at hm
      simp at hm
  unfold win rch; rw [hc]; rfl
def nextP (xs F : List Int) : Option (List Int) := match win xs F with
  | p :: _ => some p
  | [] => firstMv xs F
theorem nextP_none {xs F : List Int} (h : nextP xs F = none) : firstMv xs F = none ∧ win xs F = [] := by
  unfold nextP at h
  split at h
  · cases h
  · rename_i e; exact ⟨h, e⟩
theorem nextP_stop {xs F : List Int} (h : firstMv xs F = none) : nextP xs F = none := by unfold nextP; rw [fst_win h]; exact h
theorem nextP_win {xs F p : List Int} {l : List (List Int)} (h : win xs F = p :: l) : nextP xs F = some p := by unfold nextP; rw [h]
theorem nextP_fst {xs F p : List Int} (h : win xs F = []) (h2 : firstMv xs F = some p) : nextP xs F = some p := by unfold nextP; rw [h]; exact h2
/-- What one move leaves. -/
theorem nextP_facts {xs F p : List Int} (h : nextP xs F = some p) : ∃ i m, i < F.length ∧ m ∈ moves xs (F.getD i 0).toNat ∧ p = aft F i m := by
  unfold nextP at h
  split at h
  · rename_i q l e
    cases h
    have hq : p ∈ win xs F := by rw [e]; simp
    exact cand_facts (rch_mem.1 (List.mem_filter.1 hq).1)
  · obtain ⟨j, m, _, h2, h3, h4⟩ := fstF_some h
    exact ⟨j, m, by omega, h3, h4⟩
theorem after_pos {xs F p : List Int} (hp : Pos F) {i : Nat} {m : List Int} (hi : i < F.length) (hm : m ∈ moves xs (F.getD i 0).toNat) (e : p = aft F i m) : Pos p ∧ p.sum < F.sum := by
  subst e
  have hm' := moves_mem.1 hm
  have h0 := hp.2 (F.getD i 0) (by simp [hi])
  have h1 := (mvs_facts hm').2.1
  exact ⟨hp.aft hi hm', by rw [aft_sum m hi]; omega⟩
theorem nextP_pos {xs F p : List Int} (hp : Pos F) (h : nextP xs F = some p) : Pos p ∧ p.sum < F.sum := by
  obtain ⟨i, m, hi, hm, e⟩ := nextP_facts h
  exact after_pos hp hi hm e
theorem pos_sum : ∀ {F : List Int}, (∀ x ∈ F, 1 ≤ x) → (F.length : Int) ≤ F.sum
  | [], _ => by simp
  | a :: l, h => by
    have h1 := h a (by simp)
    have h2 := pos_sum (F := l) (fun x hx => h x (by simp [hx]))
    simp only [List.length_cons, List.sum_cons]; omega
theorem Pos.len {F : List Int} (h : Pos F) : (F.length : Int) ≤ F.sum := pos_sum fun x hx => (h.2 x hx).1
/-- A play, of f moves at most. -/
def play (xs : List Int) : Nat → List Int → List (List Int)
  | 0, _ => []
  | f + 1, F => match nextP xs F with
    | none => []
    | some p => p :: play xs f p
theorem play_succ (xs : List Int) (f : Nat) (F : List Int) : play xs (f + 1) F = match nextP xs F with | none => [] | some p => p :: play xs f p := rfl
theorem play_more {xs : List Int} : ∀ {f f' : Nat} {F : List Int}, Pos F → F.sum.toNat < f → F.sum.toNat < f' → play xs f F = play xs f' F
  | 0, _, _, _, h, _ => absurd h (by omega)
  | _ + 1, 0, _, _, _, h => absurd h (by omega)
  | f + 1, f' + 1, F, hp, h1, h2 => by
    unfold play
    cases e : nextP xs F with
    | none => rfl
    | some p =>
      obtain ⟨hp2, hs⟩ := nextP_pos hp e
      have h0 := hp2.len
      simp only
      rw [play_more (f := f) (f' := f') hp2 (by omega) (by omega)]
def plays (xs F : List Int) : List (List Int) := play xs (F.sum.toNat + 1) F
theorem plays_none {xs F : List Int} (h : nextP xs F = none) : plays xs F = [] := by rw [plays, play_succ, h]
theorem plays_some {xs F p : List Int} (hp : Pos F) (h : nextP xs F = some p) : plays xs F = p :: plays xs p := by
  obtain ⟨hp2, hs⟩ := nextP_pos hp h
  have h0 := hp2.len
  have h1 : plays xs F = p :: play xs F.sum.toNat p := by rw [plays, play_succ, h]
  rw [h1, plays, play_more (f := F.sum.toNat) (f' := p.sum.toNat + 1) hp2 (by omega) (by omega)]
theorem play_len {xs : List Int} : ∀ (f : Nat) (F : List Int), (play xs f F).length ≤ f
  | 0, _ => by simp [play]
  | f + 1, F => by
    unfold play
    split
    · simp
    · rename_i p _; have := play_len (xs := xs) f p; simp; omega
theorem play_mem {xs : List Int} : ∀ {f : Nat} {F p : List Int}, Pos F → p ∈ play xs f F → Pos p ∧ p.sum < F.sum
  | 0, _, _, _, h => by simp [play] at h
  | f + 1, F, p, hp, h => by
    unfold play at h
    split at h
    · simp at h
    · rename_i q e
      obtain ⟨hq, hs⟩ := nextP_pos hp e
      rcases List.mem_cons.1 h with rfl | h
      · exact ⟨hq, hs⟩
      · obtain ⟨h1, h2⟩ := play_mem hq h
        exact ⟨h1, by omega⟩
theorem plays_len {xs F : List Int} {b : Nat} (h : F.sum ≤ b) : (plays xs F).length ≤ b + 1 := by
  have := play_len (xs := xs) (F.sum.toNat + 1) F
  unfold plays; omega
theorem plays_mem {xs F p : List Int} (hp : Pos F) (h : p ∈ plays xs F) : Pos p ∧ p.sum < F.sum := play_mem hp h
/-- The filled heaps of a good position. -/
theorem fil_pos {hs : List Int} (h : Up hs) (hr : ∀ x ∈ hs, x ≤ 300) : Pos (fil hs) := ⟨fil_up h, fun x hx => by have := fil_mem.1 hx; have := hr x this.1; omega⟩
theorem fil_of_pos {F : List Int} (h : Pos F) : fil F = F := fil_id fun x hx => by have := (h.2 x hx).1; omega
theorem fil_sum {hs : List Int} (h : Up hs) (hp : ∀ x ∈ hs, 0 ≤ x) : (fil hs).sum = hs.sum := by
  obtain ⟨z, e, _⟩ := up_split h hp
  have h2 : ∀ z : Nat, (List.replicate z (0 : Int)).sum = 0 := by
    intro z; induction z with
    | zero => rfl
    | succ z ih => rw [List.replicate_succ, List.sum_cons, ih]; rfl
  conv => rhs; rw [e]
  rw [List.sum_append, h2]; omega
end Go.Proofs.Ytoeacocijcammaa
