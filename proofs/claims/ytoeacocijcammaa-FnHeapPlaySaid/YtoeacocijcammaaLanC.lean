import Derived.Test.YtoeacocijcammaaLanB
namespace Go.Proofs.Ytoeacocijcammaa.Lan
variable {W l : Nat}
theorem plane_ok (hl : 64 ≤ l) (hW : l < W) {q a i O : Nat} (n : Nat) (hi : i < q) (ha : a < 2 ^ q) (hO : ∀ v, v < 2 ^ q → gt W l O v = decide (v = a)) (v : Nat) :
    gt W l (plane W (2 ^ W - 1) q O n i (bmask W i q)) v = (decide (v < 2 ^ i) && a.testBit i) := by
  unfold plane
  rw [frc_eq, frc_eq]
  generalize ht : Nat.lor (Nat.land O (bmask W i q)) (tag (Nat.shiftLeft (Nat.add (Nat.mul n 8) i) 16)) = t
  have h1 : ∀ v, gt W l t v = (gt W l O v && (decide (v < 2 ^ q) && v.testBit i)) := by
    intro v; rw [← ht, gt_lor, gt_tag hl, gt_land, bmask_ok hW i q hi, Bool.or_false]
  have h2 : gt W l (Nat.land (fold W q t) (2 ^ W - 1)) 0 = a.testBit i := by
    rw [gt_land, gt_F hW, Bool.eq_iff_iff, Bool.and_eq_true, fold_ok]
    simp only [decide_true, and_true]
    constructor
    · rintro ⟨v, hv, h⟩
      rw [h1, hO v hv] at h
      simp at h
      rw [← h.1]; exact h.2.2
    · intro h
      exact ⟨a, ha, by rw [h1, hO a ha]; simp [ha, h]⟩
  have h3 : ∀ v, 1 ≤ v → gt W l (Nat.land (fold W q t) (2 ^ W - 1)) v = false := by
    intro v hv
    rw [gt_land, gt_F hW]
    have : ¬ v = 0 := by omega
    simp [this]
  rw [rep_ok hW h3, h2]
def bm (W q : Nat) : P7 := ⟨bmask W 0 q, bmask W 1 q, bmask W 2 q, bmask W 3 q, bmask W 4 q, bmask W 5 q, bmask W 6 q⟩
theorem planes_ok (hl : 64 ≤ l) (hW : l < W) {α : Type} {q a O : Nat} (hq : q ≤ 7) (n : Nat) (ha : a < 2 ^ q) (hO : ∀ v, v < 2 ^ q → gt W l O v = decide (v = a)) (k : P7 → α) :
    ∃ p, planes W (2 ^ W - 1) q O n (bm W q) k = k p ∧ Pl W l q p a := by
  refine ⟨_, rfl, ?_⟩
  intro i hi v hv
  have h := plane_ok hl hW n hi ha hO v
  simp only [hv, decide_true, Bool.true_and] at h
  rw [← h]
  rcases i with _ | _ | _ | _ | _ | _ | _ | i
  all_goals first | rfl | omega
/-- What a heap of n may become, by its code's bits. -/
def Opt (V : Nat → Nat) (dg : Nat → Nat → Bool) (n t : Nat) : Prop := ∃ k, k < 6 ∧ k < n ∧
  ((dg k 0 = true ∧ n = k + 1 ∧ t = 0) ∨ (dg k 1 = true ∧ k + 1 < n ∧ t = V (n - (k + 1))) ∨ (dg k 2 = true ∧ ∃ j, j < (n - (k + 1)) / 2 ∧ t = V (j + 1) ^^^ V (n - (k + 1) - (j + 1))))
structure Code (V : Nat → Nat) (dg : Nat → Nat → Bool) : Prop where
  zero : V 0 = 0
  all : ∀ n, 1 ≤ n → ∀ t, t < V n → Opt V dg n t
  not : ∀ n, 1 ≤ n → ¬ Opt V dg n (V n)
structure EntOk (W l q : Nat) (V : Nat → Nat) (m : Nat) (e : Ent) : Prop where
  pl : Pl W l q e.pl (V m)
  g1 : ∀ v, v < 2 ^ q → (gt W l e.g1 v = true ↔ m = 0 ∧ v = 0)
  g2 : ∀ v, v < 2 ^ q → (gt W l e.g2 v = true ↔ 0 < m ∧ v = V m)
  g4 : ∀ v, v < 2 ^ q → (gt W l e.g4 v = true ↔ ∃ j, j < m / 2 ∧ v = V (j + 1) ^^^ V (m - (j + 1)))
def DigOk (W l q : Nat) (dg : Nat → Nat → Bool) (D : List Dig) : Prop := D.length = 6 ∧ ∀ k, k < 6 → ∃ d : Dig, D[k]? = some d ∧
  ∀ v, gt W l d.d1 v = (decide (v < 2 ^ q) && dg k 0) ∧ gt W l d.d2 v = (decide (v < 2 ^ q) && dg k 1) ∧ gt W l d.d4 v = (decide (v < 2 ^ q) && dg k 2)
def StOk (W l q : Nat) (V : Nat → Nat) (n : Nat) (st : List Ent) : Prop := st.length = n ∧ ∀ i, i < n → ∃ e, st[i]? = some e ∧ EntOk W l q V (n - 1 - i) e
theorem tab_is (hl : 64 ≤ l) {q n : Nat} {V : Nat → Nat} {dg : Nat → Nat → Bool} {D : List Dig} {st : List Ent} (hD : DigOk W l q dg D) (hS : StOk W l q V n st) (v : Nat) (hv : v < 2 ^ q) :
    gt W l (tab D st (tag n)) v = true ↔ Opt V dg n v := by
  rw [tab_ok, gt_tag hl]
  constructor
  · rintro (h | ⟨k, d, e, h1, h2, h3⟩)
    · simp at h
    · have hk : k < 6 := by
        have := (List.getElem?_eq_some_iff.1 h1).1
        rw [hD.1] at this; exact this
      have hkn : k < n := by
        have := (List.getElem?_eq_some_iff.1 h2).1
        rw [hS.1] at this; exact this
      obtain ⟨d', hd', hdv⟩ := hD.2 k hk
      obtain ⟨e', he', hev⟩ := hS.2 k hkn
      obtain rfl : d' = d := by rw [h1] at hd'; exact (Option.some.inj hd').symm
      obtain rfl : e' = e := by rw [h2] at he'; exact (Option.some.inj he').symm
      obtain ⟨q1, q2, q4⟩ := hdv v
      rw [q1, q2, q4, hev.g1 v hv, hev.g2 v hv, hev.g4 v hv] at h3
      simp only [hv, decide_true, Bool.true_and] at h3
      refine ⟨k, hk, hkn, ?_⟩
      have e1 : n - 1 - k = n - (k + 1) := by omega
      rw [e1] at h3
      rcases h3 with ⟨h, h4, h5⟩ | ⟨h, h4, h5⟩ | ⟨h, h4⟩
      · exact .inl ⟨h, by omega, h5⟩
      · exact .inr (.inl ⟨h, by omega, h5⟩)
      · exact .inr (.inr ⟨h, h4⟩)
  · rintro ⟨k, hk, hkn, h3⟩
    obtain ⟨d, hd, hdv⟩ := hD.2 k hk
    obtain ⟨e, he, hev⟩ := hS.2 k hkn
    obtain ⟨q1, q2, q4⟩ := hdv v
    refine .inr ⟨k, d, e, hd, he, ?_⟩
    rw [q1, q2, q4, hev.g1 v hv, hev.g2 v hv, hev.g4 v hv]
    simp only [hv, decide_true, Bool.true_and]
    have e1 : n - 1 - k = n - (k + 1) := by omega
    rw [e1]
    rcases h3 with ⟨h, h4, h5⟩ | ⟨h, h4, h5⟩ | ⟨h, h4⟩
    · exact .inl ⟨h, by omega, h5⟩
    · exact .inr (.inl ⟨h, by omega, h5⟩)
    · exact .inr (.inr ⟨h, h4⟩)
theorem tab_over (hl : 64 ≤ l) {q n : Nat} {dg : Nat → Nat → Bool} {D : List Dig} (st : List Ent) (hD : DigOk W l q dg D) (v : Nat) (hv : 2 ^ q ≤ v) : gt W l (tab D st (tag n)) v = false := by
  rw [← Bool.not_eq_true, tab_ok, gt_tag hl]
  rintro (h | ⟨k, d, e, h1, h2, h3⟩)
  · simp at h
  · have hk : k < 6 := by
      have := (List.getElem?_eq_some_iff.1 h1).1
      rw [hD.1] at this; exact this
    obtain ⟨d', hd', hdv⟩ := hD.2 k hk
    obtain rfl : d' = d := by rw [h1] at hd'; exact (Option.some.inj hd').symm
    obtain ⟨q1, q2, q4⟩ := hdv v
    have hn : ¬ v < 2 ^ q := by omega
    rw [q1, q2, q4] at h3
    simp [hn] at h3
theorem sums_is (hl : 64 ≤ l) {q n : Nat} {V : Nat → Nat} {pr : P7 → P7 → Nat} {st : List Ent} (hpr : Good W l q pr) (hS : StOk W l q V n st) (hV : ∀ m, m < n → V m < 2 ^ q) (v : Nat) :
    gt W l (sums pr (Nat.div n 2) st (revN (Nat.sub n 1) st []) (tag n)) v = true ↔ ∃ j, j < n / 2 ∧ v = V (j + 1) ^^^ V (n - (j + 1)) := by
  have hx : ∀ j, j < n / 2 → ∃ e, st[j]? = some e ∧ Pl W l q e.pl (V (n - (j + 1))) := by
    intro j hj
    obtain ⟨e, he, hev⟩ := hS.2 j (by omega)
    exact ⟨e, he, by rw [show n - (j + 1) = n - 1 - j by omega]; exact hev.pl⟩
  have hy : ∀ j, j < n / 2 → ∃ e, (revN (Nat.sub n 1) st [])[j]? = some e ∧ Pl W l q e.pl (V (j + 1)) := by
    intro j hj
    obtain ⟨e, he, hev⟩ := hS.2 (n - 2 - j) (by omega)
    refine ⟨e, ?_, by rw [show j + 1 = n - 1 - (n - 2 - j) by omega]; exact hev.pl⟩
    rw [revN_eq, List.append_nil]
    have hlen : (st.take (Nat.sub n 1)).length = n - 1 := by
      rw [List.length_take, hS.1]; exact Nat.min_eq_left (Nat.sub_le n 1)
    rw [List.getElem?_reverse (by omega), hlen, List.getElem?_take, if_pos (show n - 1 - 1 - j < Nat.sub n 1 from by show _ < n - 1; omega), show n - 1 - 1 - j = n - 2 - j by omega]
    exact he
  have h := sums_ok hpr (fun j => V (n - (j + 1))) (fun j => V (j + 1)) (n / 2) st (revN (Nat.sub n 1) st []) (tag n) hx hy v
  refine (show _ ↔ _ from h).trans ?_
  rw [gt_tag hl]
  constructor
  · rintro (h | ⟨j, hj, h⟩)
    · simp at h
    · refine ⟨j, hj, ?_⟩
      rw [Nat.xor_comm, h]
      exact Nat.mod_eq_of_lt (Nat.xor_lt_two_pow (hV _ (by omega)) (hV _ (by omega)))
  · rintro ⟨j, hj, h⟩
    refine .inr ⟨j, hj, ?_⟩
    rw [h, Nat.xor_comm]
    exact (Nat.mod_eq_of_lt (Nat.xor_lt_two_pow (hV _ (by omega)) (hV _ (by omega)))).symm
/-- The step of the machine, plainly. -/
theorem run_succ (pr : P7 → P7 → Nat) (W F q X : Nat) (B : P7) (D : List Dig) (fuel n : Nat) (st : List Ent) (fl : Nat) :
    run pr W F q X B D (fuel + 1) n st fl =
      (let T := tab D st (tag n)
       let E := Nat.lor (Nat.shiftLeft (scan W T q) (Nat.mul 1 W)) F
       let O := Nat.xor E (Nat.land E T)
       planes W F q O n B fun pl => run pr W F q X B D fuel (n + 1) (⟨pl, 0, O, sums pr (Nat.div n 2) st (revN (Nat.sub n 1) st []) (tag n)⟩ :: st) (Nat.lor fl (Nat.shiftRight O X))) := rfl
theorem planes_k {α : Type} (W F q O n : Nat) (B : P7) : ∃ p, ∀ k : P7 → α, planes W F q O n B k = k p := ⟨_, fun _ => rfl⟩
theorem run_mono (pr : P7 → P7 → Nat) (W F q X : Nat) (B : P7) (D : List Dig) : ∀ (fuel n : Nat) (st : List Ent) (fl : Nat), gt W l fl 0 = true → gt W l (run pr W F q X B D fuel n st fl) 0 = true
  | 0, _, _, _, h => h
  | fuel + 1, n, st, fl, h => by
    rw [run_succ]
    simp only
    obtain ⟨p, hp⟩ := planes_k (α := Nat) W F q (Nat.xor (Nat.lor (Nat.shiftLeft (scan W (tab D st (tag n)) q) (Nat.mul 1 W)) F) (Nat.land (Nat.lor (Nat.shiftLeft (scan W (tab D st (tag n)) q) (Nat.mul 1 W)) F) (tab D st (tag n)))) n B
    rw [hp]
    refine run_mono pr W F q X B D fuel _ _ _ ?_
    rw [gt_lor, h, Bool.true_or]
theorem run_ok (hl : 64 ≤ l) (hW : l < W) {q : Nat} (hq : q ≤ 7) {V : Nat → Nat} {dg : Nat → Nat → Bool} (hc : Code V dg) {pr : P7 → P7 → Nat} (hpr : Good W l q pr) {D : List Dig} (hD : DigOk W l q dg D) :
    ∀ (fuel n : Nat) (st : List Ent) (fl : Nat), 1 ≤ n → StOk W l q V n st → (∀ m, m < n → V m < 2 ^ q) →
      gt W l (run pr W (2 ^ W - 1) q (Nat.mul (Nat.pow 2 q) W) (bm W q) D fuel n st fl) 0 = false → ∀ m, m < n + fuel → V m < 2 ^ q
  | 0, n, st, fl, _, _, hV, _, m, hm => hV m hm
  | fuel + 1, n, st, fl, hn, hS, hV, hrun, m, hm => by
    rw [run_succ] at hrun
    simp only at hrun
    have hT := tab_is (n := n) hl hD hS
    have hTo := tab_over (n := n) hl st hD
    generalize tab D st (tag n) = T at *
    have hE : ∀ v, v ≤ 2 ^ q → (gt W l (Nat.lor (Nat.shiftLeft (scan W T q) (Nat.mul 1 W)) (2 ^ W - 1)) v = true ↔ ∀ u, u < v → gt W l T u = true) := by
      intro v hv
      rw [gt_lor, gt_shl hW, gt_F hW]
      rcases v with _ | v
      · simp
      · have h0 : ¬ v + 1 = 0 := by omega
        simp only [h0, decide_false, Bool.or_false, show 1 ≤ v + 1 by omega, decide_true, Bool.true_and, Nat.add_sub_cancel, scan_ok hW]
        exact ⟨fun h u hu => h u (by omega) (by omega), fun h u hu _ => h u (by omega)⟩
    generalize Nat.lor (Nat.shiftLeft (scan W T q) (Nat.mul 1 W)) (2 ^ W - 1) = E at *
    have hOv : ∀ v, gt W l (Nat.xor E (Nat.land E T)) v = (gt W l E v && !gt W l T v) := by
      intro v; rw [gt_xor, gt_land]; cases gt W l E v <;> cases gt W l T v <;> rfl
    generalize Nat.xor E (Nat.land E T) = O at *
    have hfail : gt W l (Nat.shiftRight O (Nat.mul (Nat.pow 2 q) W)) 0 = false := by
      obtain ⟨p, hp⟩ := planes_k (α := Nat) W (2 ^ W - 1) q O n (bm W q)
      rw [hp] at hrun
      rcases hb : gt W l (Nat.shiftRight O (Nat.mul (Nat.pow 2 q) W)) 0 with _ | _
      · rfl
      · rw [run_mono pr W (2 ^ W - 1) q (Nat.mul (Nat.pow 2 q) W) (bm W q) D fuel _ _ _ (by rw [gt_lor, hb, Bool.or_true])] at hrun
        exact hrun
    rw [show Nat.mul (Nat.pow 2 q) W = Nat.mul (2 ^ q) W from rfl, gt_shr, Nat.zero_add, hOv, hTo _ (Nat.le_refl _)] at hfail
    simp only [Bool.not_false, Bool.and_true] at hfail
    have hlt : V n < 2 ^ q := by
      rcases Nat.lt_or_ge (V n) (2 ^ q) with h | h
      · exact h
      · exact absurd ((hE (2 ^ q) (Nat.le_refl _)).2 fun u hu => (hT u hu).2 (hc.all n hn u (by omega))) (by rw [hfail]; simp)
    have hO : ∀ v, v < 2 ^ q → gt W l O v = decide (v = V n) := by
      intro v hv
      rw [Bool.eq_iff_iff, hOv, Bool.and_eq_true, hE v (by omega), Bool.not_eq_true', ← Bool.not_eq_true, hT v hv, decide_eq_true_eq]
      constructor
      · rintro ⟨h1, h2⟩
        rcases Nat.lt_trichotomy v (V n) with h | h | h
        · exact absurd (hc.all n hn v h) h2
        · exact h
        · exact absurd ((hT _ hlt).1 (h1 _ h)) (hc.not n hn)
      · rintro rfl
        exact ⟨fun u hu => (hT u (by omega)).2 (hc.all n hn u hu), hc.not n hn⟩
    obtain ⟨p, hp, hpl⟩ := planes_ok hl hW hq n hlt hO (fun pl => run pr W (2 ^ W - 1) q (Nat.mul (Nat.pow 2 q) W) (bm W q) D fuel (n + 1)
      (⟨pl, 0, O, sums pr (Nat.div n 2) st (revN (Nat.sub n 1) st []) (tag n)⟩ :: st) (Nat.lor fl (Nat.shiftRight O (Nat.mul (Nat.pow 2 q) W))))
    rw [hp] at hrun
    refine run_ok hl hW hq hc hpr hD fuel (n + 1) _ _ (by omega) ⟨by rw [List.length_cons, hS.1], ?_⟩ ?_ hrun m (by omega)
    · intro i hi
      rcases i with _ | i
      · refine ⟨_, rfl, ?_⟩
        rw [show n + 1 - 1 - 0 = n by omega]
        exact ⟨hpl, fun v hv => by show gt W l 0 v = true ↔ _
                                   rw [gt_zero]; simp; omega, fun v hv => by show gt W l O v = true ↔ _
                                                                             rw [hO v hv]; simp; omega, fun v hv => sums_is hl hpr hS hV v⟩
      · obtain ⟨e, he, hev⟩ := hS.2 i (by omega)
        exact ⟨e, by simpa using he, by rw [show n + 1 - 1 - (i + 1) = n - 1 - i by omega]; exact hev⟩
    · intro m' hm'
      rcases Nat.lt_or_ge m' n with h | h
      · exact hV m' h
      · obtain rfl : m' = n := by omega
        exact hlt
theorem st0_ok (hW : l < W) (q : Nat) {V : Nat → Nat} (h0 : V 0 = 0) : StOk W l q V 1 [⟨⟨0, 0, 0, 0, 0, 0, 0⟩, 2 ^ W - 1, 0, 0⟩] := by
  refine ⟨rfl, fun i hi => ?_⟩
  obtain rfl : i = 0 := by omega
  refine ⟨_, rfl, ?_, fun v _ => ?_, fun v _ => ?_, fun v _ => ?_⟩
  · intro i hi v hv
    have e : (⟨0, 0, 0, 0, 0, 0, 0⟩ : P7).at i = 0 := by rcases i with _ | _ | _ | _ | _ | _ | i <;> rfl
    rw [e, gt_zero, show 1 - 1 - 0 = 0 from rfl, h0]; simp
  · show gt W l (2 ^ W - 1) v = true ↔ _
    rw [gt_F hW]; simp
  · show gt W l 0 v = true ↔ _
    rw [gt_zero]; simp
  · show gt W l 0 v = true ↔ _
    rw [gt_zero]; simp
/-- Bits of a number at will. -/
theorem bits (f : Nat → Bool) : ∀ n, ∃ x, x < 2 ^ n ∧ ∀ j, j < n → x.testBit j = f j
  | 0 => ⟨0, by omega, fun j hj => by omega⟩
  | n + 1 => by
    obtain ⟨x, hx, hb⟩ := bits f n
    have hp := Nat.pow_succ (n := 2) (m := n)
    cases hf : f n
    · refine ⟨x, by omega, fun j hj => ?_⟩
      rcases Nat.lt_or_ge j n with h | h
      · exact hb j h
      · obtain rfl : j = n := by omega
        rw [hf]; exact Nat.testBit_lt_two_pow hx
    · refine ⟨2 ^ n + x, by omega, fun j hj => ?_⟩
      rcases Nat.lt_or_ge j n with h | h
      · rw [Nat.testBit_two_pow_add_gt h]; exact hb j h
      · obtain rfl : j = n := by omega
        rw [hf, Nat.testBit_two_pow_add_eq, Nat.testBit_lt_two_pow hx]; rfl
theorem bitP_low (hl : 64 ≤ l) (hW : l < W) {n : Nat} (hn : W = 2 ^ n + 64) {fx : List (Nat × Bool)} {i : Nat} (hi : (fx.lookup i).isNone = true → (free fx).idxOf i < n) (v : Nat) (hv : 1 ≤ v) : gt W l (bitP (2 ^ W - 1) n fx i) v = false := by
  unfold bitP
  split
  · split
    · rw [gt_F hW]
      have : ¬ v = 0 := by omega
      simp [this]
    · exact gt_zero v
  · rename_i h
    show (pat _ n <<< 64).testBit (v * W + l) = false
    rw [Nat.testBit_shiftLeft, pat_ok _ n (hi (by rw [h]; rfl))]
    have := Nat.mul_le_mul_right W hv
    have h2 : ¬ v * W + l - 64 < 2 ^ n := by omega
    simp [h2]
theorem block {q : Nat} {pr : Nat → Nat → P7 → P7 → Nat} {fx : List (Nat × Bool)} {hs : Nat} {V : Nat → Nat} {f : Nat → Bool} (hq : q ≤ 7)
    (hpr : ∀ W l, 64 ≤ l → l < W → Good W l q (pr W (2 ^ W - 1))) (hc : Code V fun k b => f (3 * k + b)) (hfx : ∀ i b, fx.lookup i = some b → f i = b) (hgo : go pr fx q hs = 0) : ∀ m, m < hs + 1 → V m < 2 ^ q := by
  obtain ⟨n, hn⟩ : ∃ n, (free fx).length = n := ⟨_, rfl⟩
  obtain ⟨W, hWn⟩ : ∃ W, 2 ^ n + 64 = W := ⟨_, rfl⟩
  obtain ⟨x, hx, hb⟩ := bits (fun j => f ((free fx).getD j 0)) n
  have hl : 64 ≤ x + 64 := by omega
  have hW : x + 64 < W := by omega
  have hgo2 : run (pr W (2 ^ W - 1)) W (2 ^ W - 1) q (Nat.mul (Nat.pow 2 q) W) (bm W q) (digs W (2 ^ W - 1) q n fx) hs 1 [⟨⟨0, 0, 0, 0, 0, 0, 0⟩, 2 ^ W - 1, 0, 0⟩] 0 = 0 := by
    rw [← hWn, ← hn]; exact hgo
  have hidx : ∀ i, i < 18 → (fx.lookup i).isNone = true → (free fx).idxOf i < n ∧ (free fx).getD ((free fx).idxOf i) 0 = i := by
    intro i hi h
    have hmem : i ∈ free fx := by unfold free; rw [List.mem_filter, List.mem_range]; exact ⟨hi, h⟩
    have h1 : (free fx).idxOf i < (free fx).length := List.idxOf_lt_length_of_mem hmem
    refine ⟨by rw [← hn]; exact h1, ?_⟩
    rw [List.getD_eq_getElem?_getD, List.getElem?_eq_getElem h1, Option.getD_some, List.getElem_idxOf]
  have hbit : ∀ i, i < 18 → gt W (x + 64) (bitP (2 ^ W - 1) n fx i) 0 = f i := by
    intro i hi
    unfold bitP
    split
    · rename_i b h
      rw [hfx i b h]
      cases b
      · exact gt_zero 0
      · rw [if_pos rfl, gt_F hW]; rfl
    · rename_i h
      obtain ⟨h1, h2⟩ := hidx i hi (by rw [h]; rfl)
      show (pat _ n <<< 64).testBit (0 * W + (x + 64)) = f i
      rw [Nat.testBit_shiftLeft, pat_ok _ n h1, Nat.zero_mul, Nat.zero_add, Nat.add_sub_cancel, hb _ h1, h2]
      simp [hx]
  have hrep : ∀ i, i < 18 → ∀ v, gt W (x + 64) (rep W (bitP (2 ^ W - 1) n fx i) q) v = (decide (v < 2 ^ q) && f i) := by
    intro i hi v
    rw [rep_ok hW (fun v hv => bitP_low hl hW hWn.symm (fun h => (hidx i hi h).1) v hv), hbit i hi]
  have hD : DigOk W (x + 64) q (fun k b => f (3 * k + b)) (digs W (2 ^ W - 1) q n fx) := by
    refine ⟨by simp [digs], fun k hk => ⟨_, by simp [digs, List.getElem?_range hk]; rfl, fun v => ⟨?_, ?_, ?_⟩⟩⟩
    · exact hrep (3 * k) (by omega) v
    · exact hrep (3 * k + 1) (by omega) v
    · exact hrep (3 * k + 2) (by omega) v
  intro m hm
  refine run_ok hl hW hq hc (hpr W _ hl hW) hD hs 1 _ 0 (by omega) (st0_ok hW q hc.zero) (fun m hm => ?_) (by rw [hgo2]; exact gt_zero 0) m (by omega)
  obtain rfl : m = 0 := by omega
  rw [hc.zero]; exact Nat.two_pow_pos q
end Go.Proofs.Ytoeacocijcammaa.Lan
