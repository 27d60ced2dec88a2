import Derived.Test.YtoeacocijcammaaLanA
namespace Go.Proofs.Ytoeacocijcammaa.Lan
/-- Lane l of table v. -/
def gt (W l t v : Nat) : Bool := t.testBit (v * W + l)
variable {W l : Nat}
theorem gt_land (a b v : Nat) : gt W l (Nat.land a b) v = (gt W l a v && gt W l b v) := Nat.testBit_and a b _
theorem gt_lor (a b v : Nat) : gt W l (Nat.lor a b) v = (gt W l a v || gt W l b v) := Nat.testBit_or a b _
theorem gt_xor (a b v : Nat) : gt W l (Nat.xor a b) v = (gt W l a v ^^ gt W l b v) := Nat.testBit_xor a b _
theorem gt_zero (v : Nat) : gt W l 0 v = false := Nat.zero_testBit _
theorem pos_iff (hW : l < W) (s v : Nat) : s * W ≤ v * W + l ↔ s ≤ v := by
  constructor
  · intro h
    rcases Nat.lt_or_ge v s with h1 | h1
    · have h2 : (v + 1) * W ≤ s * W := Nat.mul_le_mul_right W h1
      rw [Nat.succ_mul] at h2; omega
    · exact h1
  · intro h
    have h2 : s * W ≤ v * W := Nat.mul_le_mul_right W h
    omega
theorem gt_shl (hW : l < W) (a s v : Nat) : gt W l (Nat.shiftLeft a (Nat.mul s W)) v = (decide (s ≤ v) && gt W l a (v - s)) := by
  have h := Nat.testBit_shiftLeft (i := s * W) (j := v * W + l) a
  have e : gt W l (Nat.shiftLeft a (Nat.mul s W)) v = (a <<< (s * W)).testBit (v * W + l) := rfl
  rw [e, h]
  by_cases hs : s ≤ v
  · have h1 := (pos_iff hW s v).2 hs
    have h2 : v * W + l - s * W = (v - s) * W + l := by
      rw [Nat.sub_mul]
      have := Nat.mul_le_mul_right W hs
      omega
    simp only [ge_iff_le, h1, hs, decide_true, Bool.true_and, h2]; rfl
  · have h1 : ¬ s * W ≤ v * W + l := fun h => hs ((pos_iff hW s v).1 h)
    simp [h1, hs]
theorem gt_shr (a s v : Nat) : gt W l (Nat.shiftRight a (Nat.mul s W)) v = gt W l a (v + s) := by
  have h := Nat.testBit_shiftRight (i := s * W) (j := v * W + l) a
  have e : gt W l (Nat.shiftRight a (Nat.mul s W)) v = (a >>> (s * W)).testBit (v * W + l) := rfl
  rw [e, h]
  show a.testBit _ = a.testBit _
  congr 1
  rw [Nat.add_mul]; omega
theorem gt_low (_hW : l < W) {p : Nat} (hp : p < 2 ^ W) {v : Nat} (hv : 1 ≤ v) : gt W l p v = false := by
  refine Nat.testBit_lt_two_pow (Nat.lt_of_lt_of_le hp (Nat.pow_le_pow_right (by omega) ?_))
  have := Nat.mul_le_mul_right W hv
  omega
theorem gt_tag (hl : 64 ≤ l) (n v : Nat) : gt W l (tag n) v = false := by
  refine Nat.testBit_lt_two_pow (Nat.lt_of_lt_of_le (m := 2 ^ 64) (Nat.mod_lt _ (by decide)) (Nat.pow_le_pow_right (by omega) (by omega)))
theorem gt_F (hW : l < W) (v : Nat) : gt W l (2 ^ W - 1) v = decide (v = 0) := by
  rcases v with _ | v
  · show (2 ^ W - 1).testBit _ = _
    rw [Nat.testBit_two_pow_sub_one]; simpa using hW
  · rw [gt_low hW (Nat.sub_lt (Nat.two_pow_pos W) (by omega)) (by omega)]; simp
theorem gt_ones (hW : l < W) (q v : Nat) : gt W l (ones W q) v = decide (v < 2 ^ q) := by
  show (2 ^ (2 ^ q * W) - 1).testBit (v * W + l) = _
  rw [Nat.testBit_two_pow_sub_one]
  have := pos_iff hW (2 ^ q) v
  by_cases h : v < 2 ^ q
  · simp only [h, decide_true, decide_eq_true_eq]; exact Nat.lt_of_not_le fun h2 => absurd (this.1 h2) (by omega)
  · simp only [h, decide_false, decide_eq_false_iff_not]; exact Nat.not_lt.2 (this.2 (by omega))
theorem mod_succ (c i : Nat) : c % 2 ^ (i + 1) = c % 2 ^ i + 2 ^ i * (c.testBit i).toNat := by
  rw [Nat.mod_pow_succ, Nat.testBit_eq_decide_div_mod_eq]
  rcases Nat.mod_two_eq_zero_or_one (c / 2 ^ i) with h | h <;> simp [h]
/-- One plane more. -/
theorem lev_ok (hW : l < W) (c i : Nat) {t w : Nat} (ht : ∀ v, gt W l t v = decide (v = c % 2 ^ i)) (hw : ∀ v, v < 2 ^ i → gt W l w v = c.testBit i) (v : Nat) :
    gt W l (lev t w (Nat.mul (2 ^ i) W)) v = decide (v = c % 2 ^ (i + 1)) := by
  have hm := mod_succ c i
  have hlt : c % 2 ^ i < 2 ^ i := Nat.mod_lt _ (Nat.two_pow_pos i)
  unfold lev
  rw [gt_lor, gt_xor, gt_land, gt_shl hW, gt_land, ht, ht, hm]
  generalize c % 2 ^ i = m at *
  cases hb : c.testBit i
  · rw [hb] at hw
    simp only [Bool.toNat_false, Nat.mul_zero, Nat.add_zero]
    by_cases h1 : v = m
    · subst h1; rw [hw v hlt]; simp
    · by_cases h2 : v - 2 ^ i = m
      · rw [h2, hw m hlt]; simp [h1]
      · simp [h1, h2]
  · rw [hb] at hw
    simp only [Bool.toNat_true, Nat.mul_one]
    by_cases h1 : v = m
    · subst h1; rw [hw v hlt]
      have h2 : ¬ 2 ^ i ≤ v := by omega
      have h3 : ¬ v = v + 2 ^ i := by omega
      simp only [h2, h3, decide_false, Bool.false_and, decide_true]; rfl
    · by_cases h2 : 2 ^ i ≤ v
      · by_cases h3 : v - 2 ^ i = m
        · have h4 : v = m + 2 ^ i := by omega
          rw [h3, hw m hlt]; simp [h1, h2, h4]
        · have h4 : ¬ v = m + 2 ^ i := by omega
          simp [h1, h3, h4]
      · have h4 : ¬ v = m + 2 ^ i := by omega
        simp [h1, h2, h4]
/-- The planes of a value. -/
def Pl (W l q : Nat) (p : P7) (a : Nat) : Prop := ∀ i, i < q → ∀ v, v < 2 ^ i → gt W l (p.at i) v = a.testBit i
theorem Pl.xor {q : Nat} {x y : P7} {a b : Nat} (hx : Pl W l q x a) (hy : Pl W l q y b) {i : Nat} (hi : i < q) : ∀ v, v < 2 ^ i → gt W l (Nat.xor (x.at i) (y.at i)) v = (a ^^^ b).testBit i := by
  intro v hv
  rw [gt_xor, hx i hi v hv, hy i hi v hv, Nat.testBit_xor]
/-- What is asked of the program for a pair. -/
def Good (W l q : Nat) (pr : P7 → P7 → Nat) : Prop := ∀ x y a b, Pl W l q x a → Pl W l q y b → ∀ v, gt W l (pr x y) v = decide (v = (a ^^^ b) % 2 ^ q)
theorem pr4_ok (hW : l < W) {q : Nat} (hq : 4 ≤ q) {x y : P7} {a b : Nat} (hx : Pl W l q x a) (hy : Pl W l q y b) (v : Nat) : gt W l (pr4 W (2 ^ W - 1) x y) v = decide (v = (a ^^^ b) % 2 ^ 4) := by
  have h0 : ∀ v, gt W l (2 ^ W - 1) v = decide (v = (a ^^^ b) % 2 ^ 0) := fun v => by rw [gt_F hW]; simp [Nat.mod_one]
  have h1 := lev_ok hW (a ^^^ b) 0 h0 (hx.xor hy (by omega))
  have h2 := lev_ok hW (a ^^^ b) 1 h1 (hx.xor hy (by omega))
  have h3 := lev_ok hW (a ^^^ b) 2 h2 (hx.xor hy (by omega))
  exact lev_ok hW (a ^^^ b) 3 h3 (hx.xor hy (by omega)) v
theorem pr5_ok (hW : l < W) {q : Nat} (hq : 5 ≤ q) {x y : P7} {a b : Nat} (hx : Pl W l q x a) (hy : Pl W l q y b) (v : Nat) : gt W l (pr5 W (2 ^ W - 1) x y) v = decide (v = (a ^^^ b) % 2 ^ 5) :=
  lev_ok hW (a ^^^ b) 4 (pr4_ok hW (by omega) hx hy) (hx.xor hy (by omega)) v
theorem pr6_ok (hW : l < W) {q : Nat} (hq : 6 ≤ q) {x y : P7} {a b : Nat} (hx : Pl W l q x a) (hy : Pl W l q y b) (v : Nat) : gt W l (pr6 W (2 ^ W - 1) x y) v = decide (v = (a ^^^ b) % 2 ^ 6) :=
  lev_ok hW (a ^^^ b) 5 (pr5_ok hW (by omega) hx hy) (hx.xor hy (by omega)) v
theorem pr7_ok (hW : l < W) {q : Nat} (hq : 7 ≤ q) {x y : P7} {a b : Nat} (hx : Pl W l q x a) (hy : Pl W l q y b) (v : Nat) : gt W l (pr7 W (2 ^ W - 1) x y) v = decide (v = (a ^^^ b) % 2 ^ 7) :=
  lev_ok hW (a ^^^ b) 6 (pr6_ok hW (by omega) hx hy) (hx.xor hy (by omega)) v
theorem sums_ok {q : Nat} {pr : P7 → P7 → Nat} (hpr : Good W l q pr) (A B : Nat → Nat) : ∀ (n : Nat) (xs ys : List Ent) (S : Nat),
    (∀ j, j < n → ∃ e, xs[j]? = some e ∧ Pl W l q e.pl (A j)) → (∀ j, j < n → ∃ e, ys[j]? = some e ∧ Pl W l q e.pl (B j)) →
    ∀ v, gt W l (sums pr n xs ys S) v = true ↔ gt W l S v = true ∨ ∃ j, j < n ∧ v = (A j ^^^ B j) % 2 ^ q := by
  intro n
  induction n generalizing A B with
  | zero => intro xs ys S _ _ v; simp [sums]
  | succ n ih =>
    intro xs ys S hx hy v
    obtain ⟨e, he, pe⟩ := hx 0 (by omega)
    obtain ⟨e', he', pe'⟩ := hy 0 (by omega)
    rcases xs with _ | ⟨x, xs⟩
    · simp at he
    rcases ys with _ | ⟨y, ys⟩
    · simp at he'
    simp at he he'
    subst he he'
    have := ih (fun j => A (j + 1)) (fun j => B (j + 1)) xs ys (Nat.lor S (pr x.pl y.pl)) (fun j hj => by simpa using hx (j + 1) (by omega)) (fun j hj => by simpa using hy (j + 1) (by omega)) v
    rw [sums, frc_eq, this, gt_lor, hpr _ _ _ _ pe pe']
    simp only [Bool.or_eq_true, decide_eq_true_eq, or_assoc]
    constructor
    · rintro (h | h | ⟨j, hj, h⟩)
      · exact .inl h
      · exact .inr ⟨0, by omega, h⟩
      · exact .inr ⟨j + 1, by omega, h⟩
    · rintro (h | ⟨j, hj, h⟩)
      · exact .inl h
      · rcases j with _ | j
        · exact .inr (.inl h)
        · exact .inr (.inr ⟨j, by omega, h⟩)
theorem revN_eq : ∀ (n : Nat) (st acc : List Ent), revN n st acc = (st.take n).reverse ++ acc
  | 0, st, acc => by simp [revN]
  | n + 1, [], acc => by simp [revN]
  | n + 1, x :: st, acc => by simp [revN, revN_eq n st]
theorem tab_ok : ∀ (D : List Dig) (es : List Ent) (T v : Nat), gt W l (tab D es T) v = true ↔ gt W l T v = true ∨ ∃ (k : Nat) (d : Dig) (e : Ent), D[k]? = some d ∧ es[k]? = some e ∧
    ((gt W l d.d1 v = true ∧ gt W l e.g1 v = true) ∨ (gt W l d.d2 v = true ∧ gt W l e.g2 v = true) ∨ (gt W l d.d4 v = true ∧ gt W l e.g4 v = true))
  | [], es, T, v => by simp [tab]
  | d :: ds, [], T, v => by simp [tab]
  | d :: ds, e :: es, T, v => by
    rw [tab, frc_eq, tab_ok ds es]
    simp only [gt_lor, gt_land, Bool.or_eq_true, Bool.and_eq_true, or_assoc]
    constructor
    · rintro (h | h | h | h | ⟨k, d', e', h1, h2, h3⟩)
      · exact .inl h
      · exact .inr ⟨0, d, e, rfl, rfl, .inl h⟩
      · exact .inr ⟨0, d, e, rfl, rfl, .inr (.inl h)⟩
      · exact .inr ⟨0, d, e, rfl, rfl, .inr (.inr h)⟩
      · exact .inr ⟨k + 1, d', e', by simpa using h1, by simpa using h2, h3⟩
    · rintro (h | ⟨k, d', e', h1, h2, h3⟩)
      · exact .inl h
      · rcases k with _ | k
        · simp at h1 h2
          subst h1 h2
          rcases h3 with h | h | h
          · exact .inr (.inl h)
          · exact .inr (.inr (.inl h))
          · exact .inr (.inr (.inr (.inl h)))
        · exact .inr (.inr (.inr (.inr ⟨k, d', e', by simpa using h1, by simpa using h2, h3⟩)))
theorem scan_ok (hW : l < W) (T : Nat) : ∀ (q v : Nat), gt W l (scan W T q) v = true ↔ ∀ u, u ≤ v → v < u + 2 ^ q → gt W l T u = true
  | 0, v => by
    rw [scan]
    constructor
    · intro h u h1 h2
      obtain rfl : u = v := by omega
      exact h
    · intro h; exact h v (Nat.le_refl _) (by omega)
  | q + 1, v => by
    rw [scan, frc_eq, gt_land, gt_lor]
    rw [show Nat.mul (Nat.pow 2 q) W = Nat.mul (2 ^ q) W from rfl, gt_shl hW, gt_ones hW]
    have hp := Nat.pow_succ (n := 2) (m := q)
    simp only [Bool.and_eq_true, Bool.or_eq_true, decide_eq_true_eq, scan_ok hW T q]
    constructor
    · rintro ⟨h1, h2⟩ u hu hv
      rcases Nat.lt_or_ge v (u + 2 ^ q) with h3 | h3
      · exact h1 u hu h3
      · rcases h2 with ⟨h4, h5⟩ | h4
        · exact h5 u (by omega) (by omega)
        · omega
    · intro h
      refine ⟨fun u h1 h2 => h u h1 (by omega), ?_⟩
      rcases Nat.lt_or_ge v (2 ^ q) with h3 | h3
      · exact .inr h3
      · exact .inl ⟨h3, fun u h1 h2 => h u (by omega) (by omega)⟩
theorem fold_ok : ∀ (q t : Nat), gt W l (fold W q t) 0 = true ↔ ∃ v, v < 2 ^ q ∧ gt W l t v = true
  | 0, t => by
    rw [fold]
    exact ⟨fun h => ⟨0, by omega, h⟩, fun ⟨v, h1, h2⟩ => by obtain rfl : v = 0 := by omega
                                                            exact h2⟩
  | q + 1, t => by
    rw [fold, frc_eq, fold_ok q]
    have hp := Nat.pow_succ (n := 2) (m := q)
    constructor
    · rintro ⟨v, hv, h⟩
      rw [gt_lor, show Nat.mul (Nat.pow 2 q) W = Nat.mul (2 ^ q) W from rfl, gt_shr, Bool.or_eq_true] at h
      rcases h with h | h
      · exact ⟨v, by omega, h⟩
      · exact ⟨v + 2 ^ q, by omega, h⟩
    · rintro ⟨v, hv, h⟩
      rcases Nat.lt_or_ge v (2 ^ q) with h1 | h1
      · exact ⟨v, h1, by rw [gt_lor, h]; rfl⟩
      · refine ⟨v - 2 ^ q, by omega, ?_⟩
        rw [gt_lor, show Nat.mul (Nat.pow 2 q) W = Nat.mul (2 ^ q) W from rfl, gt_shr, Nat.sub_add_cancel h1, h, Bool.or_true]
theorem rep_ok (hW : l < W) {t : Nat} (ht : ∀ v, 1 ≤ v → gt W l t v = false) : ∀ (q v : Nat), gt W l (rep W t q) v = (decide (v < 2 ^ q) && gt W l t 0)
  | 0, v => by
    rw [rep]
    rcases v with _ | v
    · simp
    · rw [ht _ (by omega)]; simp
  | q + 1, v => by
    rw [rep, frc_eq, gt_lor, show Nat.mul (Nat.pow 2 q) W = Nat.mul (2 ^ q) W from rfl, gt_shl hW, rep_ok hW ht q, rep_ok hW ht q]
    have hp := Nat.pow_succ (n := 2) (m := q)
    cases gt W l t 0
    · simp
    · rcases Nat.lt_or_ge v (2 ^ q) with h1 | h1
      · have h2 : v < 2 ^ (q + 1) := by omega
        simp [h1, h2]
      · have h3 : ¬ v < 2 ^ q := by omega
        by_cases h2 : v < 2 ^ (q + 1)
        · have h4 : v - 2 ^ q < 2 ^ q := by omega
          simp [h1, h2, h3, h4]
        · have h4 : ¬ v - 2 ^ q < 2 ^ q := by omega
          simp [h2, h3, h4]
theorem bmask_ok (hW : l < W) (i : Nat) : ∀ (n : Nat), i < n → ∀ v, gt W l (bmask W i n) v = (decide (v < 2 ^ n) && v.testBit i)
  | n + 1, hi, v => by
    have hp := Nat.pow_succ (n := 2) (m := n)
    by_cases e : i = n
    · subst e
      rw [bmask, if_pos rfl, show Nat.mul (Nat.pow 2 i) W = Nat.mul (2 ^ i) W from rfl, gt_shl hW, gt_ones hW, Nat.testBit_eq_decide_div_mod_eq]
      rcases Nat.lt_or_ge v (2 ^ i) with h1 | h1
      · have h2 : ¬ 2 ^ i ≤ v := by omega
        rw [Nat.div_eq_of_lt h1]; simp [h2]
      · by_cases h3 : v < 2 ^ (i + 1)
        · have h4 : v / 2 ^ i = 1 := Nat.div_eq_of_lt_le (by omega) (by omega)
          have h5 : v - 2 ^ i < 2 ^ i := by omega
          rw [h4]; simp [h1, h3, h5]
        · have h5 : ¬ v - 2 ^ i < 2 ^ i := by omega
          simp [h3, h5]
    · have hi' : i < n := by omega
      rw [bmask, if_neg e, frc_eq, gt_lor, show Nat.mul (Nat.pow 2 n) W = Nat.mul (2 ^ n) W from rfl, gt_shl hW, bmask_ok hW i n hi', bmask_ok hW i n hi']
      rcases Nat.lt_or_ge v (2 ^ n) with h1 | h1
      · have h2 : ¬ 2 ^ n ≤ v := by omega
        have h3 : v < 2 ^ (n + 1) := by omega
        simp [h1, h2, h3]
      · have h2 : ¬ v < 2 ^ n := by omega
        have h4 : (v - 2 ^ n).testBit i = v.testBit i := by
          have := Nat.testBit_two_pow_add_gt (i := n) (j := i) hi' (v - 2 ^ n)
          rw [← this]; congr 1; omega
        by_cases h3 : v < 2 ^ (n + 1)
        · have h5 : v - 2 ^ n < 2 ^ n := by omega
          simp [h1, h2, h3, h4, h5]
        · have h5 : ¬ v - 2 ^ n < 2 ^ n := by omega
          simp [h2, h3, h5]
theorem pat_ok (i : Nat) : ∀ (n : Nat), i < n → ∀ v, (pat i n).testBit v = (decide (v < 2 ^ n) && v.testBit i)
  | n + 1, hi, v => by
    have hp := Nat.pow_succ (n := 2) (m := n)
    by_cases e : i = n
    · subst e
      rw [pat, if_pos rfl]
      show ((2 ^ 2 ^ i - 1) <<< 2 ^ i).testBit v = _
      rw [Nat.testBit_shiftLeft, Nat.testBit_two_pow_sub_one, Nat.testBit_eq_decide_div_mod_eq]
      rcases Nat.lt_or_ge v (2 ^ i) with h1 | h1
      · have h2 : ¬ v ≥ 2 ^ i := by omega
        rw [Nat.div_eq_of_lt h1]; simp [h2]
      · by_cases h3 : v < 2 ^ (i + 1)
        · have h4 : v / 2 ^ i = 1 := Nat.div_eq_of_lt_le (by omega) (by omega)
          have h5 : v - 2 ^ i < 2 ^ i := by omega
          rw [h4]; simp [h1, h3, h5]
        · have h5 : ¬ v - 2 ^ i < 2 ^ i := by omega
          simp [h3, h5]
    · have hi' : i < n := by omega
      rw [pat, if_neg e, frc_eq]
      show (pat i n ||| pat i n <<< 2 ^ n).testBit v = _
      rw [Nat.testBit_or, Nat.testBit_shiftLeft, pat_ok i n hi', pat_ok i n hi']
      rcases Nat.lt_or_ge v (2 ^ n) with h1 | h1
      · have h2 : ¬ 2 ^ n ≤ v := by omega
        have h3 : v < 2 ^ (n + 1) := by omega
        simp [h1, h2, h3]
      · have h2 : ¬ v < 2 ^ n := by omega
        have h4 : (v - 2 ^ n).testBit i = v.testBit i := by
          have := Nat.testBit_two_pow_add_gt (i := n) (j := i) hi' (v - 2 ^ n)
          rw [← this]; congr 1; omega
        by_cases h3 : v < 2 ^ (n + 1)
        · have h5 : v - 2 ^ n < 2 ^ n := by omega
          simp [h1, h2, h3, h4, h5]
        · have h5 : ¬ v - 2 ^ n < 2 ^ n := by omega
          simp [h2, h3, h5]
end Go.Proofs.Ytoeacocijcammaa.Lan
