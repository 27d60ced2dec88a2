/- Who has a winning move: the plain law. -/
import Derived.Test.YtoeacocijcammaaPlP
namespace Go.Proofs.Ytoeacocijcammaa

theorem xorF_acc (xs : List Int) : ∀ (F : List Int) (a : Nat), xorF xs a F = a ^^^ xorF xs 0 F
  | [], a => by simp [xorF]
  | y :: l, a => by
    simp only [xorF]
    rw [xorF_acc xs l (a ^^^ _), xorF_acc xs l (0 ^^^ _), Nat.zero_xor, Nat.xor_assoc]
theorem xorF_cons (xs : List Int) (y : Int) (l : List Int) : xorF xs 0 (y :: l) = hV xs y.toNat ^^^ xorF xs 0 l := by
  show xorF xs (0 ^^^ hV xs y.toNat) l = _
  rw [xorF_acc, Nat.zero_xor]
theorem xorF_app (xs : List Int) : ∀ (a b : List Int), xorF xs 0 (a ++ b) = xorF xs 0 a ^^^ xorF xs 0 b
  | [], b => by simp [xorF]
  | y :: l, b => by rw [List.cons_append, xorF_cons, xorF_cons, xorF_app xs l b, Nat.xor_assoc]
theorem xorF_perm (xs : List Int) {a b : List Int} (h : a.Perm b) : xorF xs 0 a = xorF xs 0 b := by
  induction h with
  | nil => rfl
  | cons y _ ih => rw [xorF_cons, xorF_cons, ih]
  | swap y z l => rw [xorF_cons, xorF_cons, xorF_cons, xorF_cons, ← Nat.xor_assoc, ← Nat.xor_assoc, Nat.xor_comm (hV xs z.toNat)]
  | trans _ _ h1 h2 => exact h1.trans h2
theorem hV_at0 (xs : List Int) : hV xs 0 = 0 := by
  have h : mexN (opts xs (vals xs 0) 0) ≤ 0 := mexN_le fun x hx => by simp [opts, optsTo] at hx
  unfold hV; omega
theorem xorF_fil (xs : List Int) : ∀ {hs : List Int}, (∀ x ∈ hs, 0 ≤ x) → xorF xs 0 (fil hs) = xorF xs 0 hs
  | [], _ => rfl
  | y :: l, h => by
    have ih := xorF_fil xs (hs := l) (fun x hx => h x (by simp [hx]))
    have hy := h y (by simp)
    unfold fil at *
    by_cases h0 : 0 < y
    · rw [List.filter_cons_of_pos (by simpa using h0), xorF_cons, xorF_cons, ih]
    · have : y = 0 := by omega
      subst this
      rw [List.filter_cons_of_neg (by simp), xorF_cons, ih]
      show _ = hV xs 0 ^^^ _
      rw [hV_at0, Nat.zero_xor]
/-- What a move of one heap does. -/
theorem xorF_aft (xs : List Int) {F : List Int} {i : Nat} (m : List Int) (hi : i < F.length) : xorF xs 0 (aft F i m) = xorF xs 0 F ^^^ hV xs (F.getD i 0).toNat ^^^ xorF xs 0 m := by
  rw [xorF_perm xs (aft_perm F i m), xorF_app, xorF_perm xs (split_at hi), xorF_cons]
  generalize hV xs (F.getD i 0).toNat = a
  generalize xorF xs 0 (F.take i ++ F.drop (i + 1)) = b
  rw [Nat.xor_comm a b, Nat.xor_assoc b a a, Nat.xor_self, Nat.xor_zero]
theorem optK_mv (xs : List Int) {d rest h : Nat} (hr : rest < h) : optK (vals xs h) d rest = (mvK d rest).map (xorF xs 0) := by
  unfold optK mvK
  rw [List.map_append, List.map_append]
  congr 1
  · congr 1
    · unfold opt1 mv1; split <;> rfl
    · unfold opt2 mv2
      split
      · rw [hV_get xs hr]; simp [xorF]
      · rfl
  · unfold opt4 mv4
    split
    · unfold splits prs
      rw [List.map_map]
      refine List.map_congr_left fun j hj => ?_
      have := List.mem_range.1 hj
      rw [hV_get xs (by omega), hV_get xs (by omega)]
      show _ = xorF xs 0 [((j + 1 : Nat) : Int), ((rest - (j + 1) : Nat) : Int)]
      rw [xorF_cons, xorF_cons]
      simp [xorF]
    · rfl
theorem optsTo_mv (xs : List Int) (h : Nat) : ∀ k, k ≤ h → optsTo xs (vals xs h) h k = (mvTo xs h k).map (xorF xs 0)
  | 0, _ => rfl
  | k + 1, hk => by
    rw [optsTo, mvTo, List.map_append, optsTo_mv xs h k (by omega), optK_mv xs (by omega)]
theorem opts_mv (xs : List Int) (h : Nat) : opts xs (vals xs h) h = (mvs xs h).map (xorF xs 0) := optsTo_mv xs h _ (Nat.min_le_right _ _)
/-- A heap's value is the least number that no move leaves. -/
theorem hV_not {xs m : List Int} {h : Nat} (hm : m ∈ mvs xs h) : xorF xs 0 m ≠ hV xs h := fun e => by
  have : hV xs h ∈ opts xs (vals xs h) h := by rw [opts_mv, ← e]; exact List.mem_map_of_mem hm
  exact mexN_not _ this
theorem hV_all {xs : List Int} {h x : Nat} (hx : x < hV xs h) : ∃ m ∈ mvs xs h, xorF xs 0 m = x := by
  have := mexN_all _ x hx
  rw [opts_mv] at this
  obtain ⟨m, h1, h2⟩ := List.mem_map.1 this
  exact ⟨m, h1, h2⟩
theorem lt_top {a X k : Nat} (h1 : X / 2 ^ k % 2 = 1) (hX : X < 2 ^ (k + 1)) (h2 : a / 2 ^ k % 2 = 1) : a ^^^ X < a := by
  have hd : (a ^^^ X) / 2 ^ (k + 1) = a / 2 ^ (k + 1) := by
    rw [← Nat.shiftRight_eq_div_pow, ← Nat.shiftRight_eq_div_pow, Nat.shiftRight_xor_distrib, Nat.shiftRight_eq_div_pow X, Nat.div_eq_of_lt hX, Nat.xor_zero]
  have hb : (a ^^^ X) / 2 ^ k % 2 = 0 := by
    have h3 : (a ^^^ X).testBit k = false := by
      rw [Nat.testBit_xor, Nat.testBit_eq_decide_div_mod_eq, Nat.testBit_eq_decide_div_mod_eq]
      simp [h1, h2]
    rw [Nat.testBit_eq_decide_div_mod_eq] at h3
    have := of_decide_eq_false h3
    omega
  have e1 := Nat.mod_pow_succ (x := a ^^^ X) (b := 2) (k := k)
  have e2 := Nat.mod_pow_succ (x := a) (b := 2) (k := k)
  rw [hb, Nat.mul_zero, Nat.add_zero] at e1
  rw [h2, Nat.mul_one] at e2
  have l1 := Nat.mod_lt (a ^^^ X) (Nat.two_pow_pos k)
  have d1 := Nat.div_add_mod (a ^^^ X) (2 ^ (k + 1))
  have d2 := Nat.div_add_mod a (2 ^ (k + 1))
  rw [hd] at d1
  omega
theorem bit_one {xs : List Int} {k : Nat} : ∀ {F : List Int}, (xorF xs 0 F).testBit k = true → ∃ y ∈ F, (hV xs y.toNat).testBit k = true
  | [], h => by simp [xorF] at h
  | y :: l, h => by
    rw [xorF_cons, Nat.testBit_xor] at h
    cases hy : (hV xs y.toNat).testBit k
    · rw [hy] at h
      obtain ⟨z, h1, h2⟩ := bit_one (F := l) (by simpa using h)
      exact ⟨z, by simp [h1], h2⟩
    · exact ⟨y, by simp, hy⟩
theorem first_place {F : List Int} {y : Int} : ∀ (i : Nat), i < F.length → F.getD i 0 = y → ∃ j, j < F.length ∧ F.getD j 0 = y ∧ ¬ (0 < j ∧ F.getD (j - 1) 0 = F.getD j 0)
  | 0, h, e => ⟨0, h, e, fun h => absurd h.1 (by omega)⟩
  | i + 1, h, e => by
    by_cases h1 : F.getD i 0 = y
    · exact first_place i (by omega) h1
    · exact ⟨i + 1, h, e, fun h2 => h1 (by rw [← e]; exact h2.2)⟩
theorem win_some {xs F : List Int} (h : xorF xs 0 F ≠ 0) : win xs F ≠ [] := by
  have hk := Nat.log2_self_le h
  have hk2 := Nat.lt_log2_self (n := xorF xs 0 F)
  obtain ⟨X, hX⟩ : ∃ X, xorF xs 0 F = X := ⟨_, rfl⟩
  obtain ⟨k, hkk⟩ : ∃ k, (xorF xs 0 F).log2 = k := ⟨_, rfl⟩
  rw [hkk] at hk hk2
  have hb : X / 2 ^ k % 2 = 1 := by
    have h1 : X / 2 ^ k = 1 := by
      rw [hX] at hk hk2
      exact Nat.div_eq_of_lt_le (by omega) (by rw [Nat.pow_succ] at hk2; omega)
    rw [h1]
  obtain ⟨y, hy, hyb⟩ := bit_one (xs := xs) (k := k) (F := F) (by rw [Nat.testBit_eq_decide_div_mod_eq, hX, hb]; rfl)
  rw [Nat.testBit_eq_decide_div_mod_eq] at hyb
  have hlt := lt_top hb (by rw [hX] at hk2; exact hk2) (of_decide_eq_true hyb)
  obtain ⟨m, hm, hmx⟩ := hV_all hlt
  obtain ⟨i0, hi0, e0⟩ := List.mem_iff_getElem.1 hy
  obtain ⟨i, hi, he, hnd⟩ := first_place (F := F) (y := y) i0 hi0 (by simp [hi0, e0])
  have hmem : aft F i m ∈ win xs F := by
    refine List.mem_filter.2 ⟨rch_mem.2 (candTo_mem.2 ⟨i, hi, ?_⟩), ?_⟩
    · unfold candAt
      rw [if_neg hnd, he]
      exact List.mem_map_of_mem (moves_mem.2 hm)
    · unfold val0
      rw [xorF_aft xs m hi, he, hmx, hX]
      generalize hV xs y.toNat = a
      rw [← Nat.xor_assoc, Nat.xor_assoc X a a, Nat.xor_self, Nat.xor_zero, Nat.xor_self]; rfl
  intro e; rw [e] at hmem; simp at hmem
theorem aft_zero {xs F m : List Int} {i : Nat} (hi : i < F.length) (hm : m ∈ moves xs (F.getD i 0).toNat) (h0 : xorF xs 0 F = 0) : xorF xs 0 (aft F i m) ≠ 0 := fun e => by
  rw [xorF_aft xs m hi, h0, Nat.zero_xor] at e
  have h1 := hV_not (moves_mem.1 hm)
  apply h1
  have h2 : hV xs (F.getD i 0).toNat ^^^ (hV xs (F.getD i 0).toNat ^^^ xorF xs 0 m) = hV xs (F.getD i 0).toNat ^^^ 0 := by rw [e]
  rw [← Nat.xor_assoc, Nat.xor_self, Nat.zero_xor, Nat.xor_zero] at h2
  exact h2
theorem win_zero {xs F p : List Int} (h : p ∈ win xs F) : xorF xs 0 p = 0 := by
  have := (List.mem_filter.1 h).2
  unfold val0 at this
  simpa using this
/-- There is a winning move just where the value is not 0. -/
theorem win_nil {xs F : List Int} : win xs F = [] ↔ xorF xs 0 F = 0 := by
  constructor
  · intro h
    rcases Nat.eq_zero_or_pos (xorF xs 0 F) with h0 | h0
    · exact h0
    · exact absurd h (win_some (by omega))
  · intro h
    cases e : win xs F with
    | nil => rfl
    | cons p l =>
      have hp : p ∈ win xs F := by rw [e]; simp
      obtain ⟨i, m, hi, hm, rfl⟩ := cand_facts (rch_mem.1 (List.mem_filter.1 hp).1)
      exact absurd (win_zero hp) (aft_zero hi hm h)
/-- Who has a winning move makes the last one. -/
theorem plays_odd {xs : List Int} : ∀ (n : Nat) {F : List Int}, Pos F → F.sum ≤ n → ((plays xs F).length % 2 = 1 ↔ xorF xs 0 F ≠ 0)
  | n, F, hp, hn => by
    cases e : nextP xs F with
    | none =>
      rw [plays_none e]
      have h1 := win_nil.1 (nextP_none e).2
      simp [h1]
    | some p =>
      obtain ⟨hp2, hs⟩ := nextP_pos hp e
      have h0 := hp2.len
      cases n with
      | zero => omega
      | succ n =>
        have ih := plays_odd (xs := xs) n (F := p) hp2 (by omega)
        rw [plays_some hp e, List.length_cons]
        have hiff : xorF xs 0 p = 0 ↔ xorF xs 0 F ≠ 0 := by
          cases ew : win xs F with
          | nil =>
            have h1 := win_nil.1 ew
            obtain ⟨i, m, hi, hm, rfl⟩ := nextP_facts e
            have := aft_zero hi hm h1
            simp [h1, this]
          | cons q l =>
            have hq : q ∈ win xs F := by rw [ew]; simp
            rw [nextP_win ew] at e
            cases e
            have h1 := win_zero hq
            have h2 : xorF xs 0 F ≠ 0 := fun h => by rw [win_nil.2 h] at ew; cases ew
            simp [h1, h2]
        omega
/-- Each less than the one ahead. -/
def dec : Int → List (List Int) → Prop
  | _, [] => True
  | s, p :: l => p.sum < s ∧ dec p.sum l
theorem plays_dec {xs : List Int} : ∀ (n : Nat) {F : List Int}, Pos F → F.sum ≤ n → dec F.sum (plays xs F)
  | n, F, hp, hn => by
    cases e : nextP xs F with
    | none => rw [plays_none e]; exact True.intro
    | some p =>
      obtain ⟨hp2, hs⟩ := nextP_pos hp e
      have h0 := hp2.len
      cases n with
      | zero => omega
      | succ n =>
        rw [plays_some hp e]
        exact ⟨hs, plays_dec n hp2 (by omega)⟩
end Go.Proofs.Ytoeacocijcammaa
