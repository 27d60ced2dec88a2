/- Plain: the text of claims. -/
import Derived.Test.YtcogdogiceokdaaDoorNtA
import Derived.Test.YtcogdogiceokdaaDoorFmJ
namespace Go.Proofs.YtcogdogiceokdaaDoor
open Go.RowKit

/-- Texts with a byte between. -/
def joinL (b : Int) : List (List Int) → List Int
  | [] => []
  | x :: l => x ++ l.flatMap (b :: ·)
theorem joinL_one (b : Int) (x : List Int) : joinL b [x] = x := by simp [joinL]
theorem joinL_snoc {b : Int} {ts : List (List Int)} (h : ts ≠ []) (y : List Int) : joinL b (ts ++ [y]) = joinL b ts ++ [b] ++ y := by
  cases ts with
  | nil => exact absurd rfl h
  | cons x l => simp [joinL]
/-- The sizes, and one for each. -/
def szT (ts : List (List Int)) : Nat := (ts.map fun t => t.length + 1).sum
theorem szT_flat (b : Int) : ∀ l : List (List Int), (l.flatMap (b :: ·)).length = szT l
  | [] => rfl
  | x :: l => by
    have := szT_flat b l
    simp only [List.flatMap_cons, List.length_append, List.length_cons, this, szT, List.map_cons, List.sum_cons]
theorem joinL_len {b : Int} {ts : List (List Int)} (h : ts ≠ []) : (joinL b ts).length + 1 = szT ts := by
  cases ts with
  | nil => exact absurd rfl h
  | cons x l =>
    have := szT_flat b l
    simp only [joinL, List.length_append, this, szT, List.map_cons, List.sum_cons]
    omega
theorem szT_take {ts : List (List Int)} {k : Nat} {x : List Int} (h : ts[k]? = some x) : szT (ts.take (k + 1)) = szT (ts.take k) + (x.length + 1) := by
  obtain ⟨hk, he⟩ := List.getElem?_eq_some_iff.1 h
  unfold szT
  rw [List.take_succ_eq_append_getElem hk, he]
  simp
theorem szT_take_le (ts : List (List Int)) (k : Nat) : szT (ts.take k) ≤ szT ts := by
  unfold szT
  conv => rhs; rw [← List.take_append_drop k ts, List.map_append, List.sum_append]
  omega
theorem take_ne {α : Type} {ts : List α} {k : Nat} (hk : k < ts.length) : ts.take (k + 1) ≠ [] := fun e => by
  have := congrArg List.length e
  rw [List.length_take, List.length_nil] at this
  omega
theorem joinL_take0 {b : Int} {ts : List (List Int)} {x : List Int} (h : ts[0]? = some x) : joinL b (ts.take 1) = x := by
  obtain ⟨hk, he⟩ := List.getElem?_eq_some_iff.1 h
  rw [List.take_succ_eq_append_getElem hk, List.take_zero, List.nil_append, joinL_one, he]
theorem joinL_take {b : Int} {ts : List (List Int)} {k : Nat} {x : List Int} (h : ts[k]? = some x) (hk0 : 0 < k) : joinL b (ts.take (k + 1)) = joinL b (ts.take k) ++ [b] ++ x := by
  obtain ⟨hk, he⟩ := List.getElem?_eq_some_iff.1 h
  obtain ⟨j, rfl⟩ : ∃ j, k = j + 1 := ⟨k - 1, by omega⟩
  rw [List.take_succ_eq_append_getElem hk, joinL_snoc (take_ne (by omega)), he]
theorem flat_bytes (b : Int) : ∀ l : List (List Int), Lib.joinTail [UInt8.ofNat b.toNat] (byL (l.map strOfNums)) = (l.flatMap (b :: ·)).map fun n => UInt8.ofNat n.toNat
  | [] => rfl
  | x :: l => by
    have ih := flat_bytes b l
    unfold Lib.joinTail byL at ih ⊢
    rw [List.map_cons, List.map_cons, List.map_cons, List.flatten_cons, ih, List.flatMap_cons, List.map_append]
    rfl
theorem joinB_joinL (b : Int) (ts : List (List Int)) : joinB (ts.map strOfNums) (strOfNums [b]) = strOfNums (joinL b ts) := by
  cases ts with
  | nil => rfl
  | cons x l =>
    have h := flat_bytes b l
    unfold joinB
    rw [show byL ((x :: l).map strOfNums) = (strOfNums x).data.toList :: byL (l.map strOfNums) from rfl, Lib.join_cons]
    rw [show (strOfNums [b]).data.toList = [UInt8.ofNat b.toNat] from rfl, h, strOfNums_data]
    unfold joinL strOfNums
    rw [List.map_append]

theorem digB_pos (u : Nat) : 1 ≤ (digB u).length := by
  by_cases h : u < 10
  · rw [digB_lt h]; simp
  · rw [digB_ge h]; simp
theorem numB_pos (n : Int) : 1 ≤ (numB n).length := by
  unfold numB
  split
  · simp
  · exact digB_pos _
theorem numB_len3 {n : Int} (h0 : 0 ≤ n) (h1 : n < 1000) : (numB n).length ≤ 3 := by
  unfold numB
  rw [if_neg (by omega)]
  exact digB_len 2 n.toNat (by omega)
/-- Numbers with commas between. -/
def numsT (l : List Int) : List Int := joinL 44 (l.map numB)
theorem numsT_nil : numsT [] = [] := rfl
theorem szT_nums : ∀ (l : List Int), (∀ x ∈ l, 0 ≤ x ∧ x < 1000) → 2 * l.length ≤ szT (l.map numB) ∧ szT (l.map numB) ≤ 4 * l.length
  | [], _ => ⟨Nat.le_refl _, Nat.le_refl _⟩
  | x :: l, h => by
    obtain ⟨h1, h2⟩ := szT_nums l (fun y hy => h y (List.mem_cons_of_mem _ hy))
    have h3 := h x (List.mem_cons_self ..)
    have h4 := numB_len3 h3.1 h3.2
    have h5 := numB_pos x
    unfold szT at h1 h2 ⊢
    simp only [List.map_cons, List.sum_cons, List.length_cons] at h1 h2 ⊢
    omega
theorem numsT_len {l : List Int} (h : ∀ x ∈ l, 0 ≤ x ∧ x < 1000) : (numsT l).length ≤ 4 * l.length ∧ (4000 < l.length → 4000 < (numsT l).length) := by
  obtain ⟨h1, h2⟩ := szT_nums l h
  by_cases e : l = []
  · subst e; exact ⟨Nat.le_refl _, fun h => by simp at h⟩
  · have := joinL_len (b := 44) (ts := l.map numB) (by simpa using e)
    unfold numsT
    omega
theorem numsT_take0 {l : List Int} {x : Int} (h : l[0]? = some x) : numsT (l.take 1) = numB x := by
  unfold numsT
  rw [List.map_take, joinL_take0 (x := numB x) (by rw [List.getElem?_map, h]; rfl)]
theorem numsT_take {l : List Int} {k : Nat} {x : Int} (h : l[k]? = some x) (hk : 0 < k) : numsT (l.take (k + 1)) = numsT (l.take k) ++ [44] ++ numB x := by
  unfold numsT
  rw [List.map_take, joinL_take (x := numB x) (by rw [List.getElem?_map, h]; rfl) hk, ← List.map_take]
/-- The text of a claim. -/
def claimL (a b : Int) (xs ys : List Int) : List Int := numB a ++ [32] ++ numB b ++ [58] ++ numsT xs ++ [58] ++ numsT ys
def claimT (d : Dat) : List Int := claimL (d.1.getD 0 0) (d.1.getD 1 0) (d.2.getD 0 []) (d.2.getD 1 [])
theorem claimT_eq (a b : Int) (xs ys : List Int) : claimT ([a, b], [xs, ys]) = claimL a b xs ys := rfl
theorem claimL_long {a b : Int} {xs ys : List Int} (h : ∀ x ∈ xs, 0 ≤ x ∧ x < 1000) (h' : ∀ x ∈ ys, 0 ≤ x ∧ x < 1000) (hl : 4000 < xs.length ∨ 4000 < ys.length) : 4000 < (claimL a b xs ys).length := by
  have h1 := (numsT_len h).2
  have h2 := (numsT_len h').2
  unfold claimL
  simp only [List.length_append]
  rcases hl with hl | hl
  · have := h1 hl; omega
  · have := h2 hl; omega
theorem claimL_len {a b : Int} {xs ys : List Int} (ha : 0 ≤ a ∧ a < 1000) (hb : 0 ≤ b ∧ b < 1000) (h : ∀ x ∈ xs, 0 ≤ x ∧ x < 1000) (h' : ∀ x ∈ ys, 0 ≤ x ∧ x < 1000) : (claimL a b xs ys).length ≤ 4 * (xs.length + ys.length) + 9 := by
  have h1 := (numsT_len h).1
  have h2 := (numsT_len h').1
  have h3 := numB_len3 ha.1 ha.2
  have h4 := numB_len3 hb.1 hb.2
  unfold claimL
  simp only [List.length_append, List.length_singleton]
  omega
/-- The text of a proof. -/
def proofT (ds : List Dat) : List Int := joinL 59 (ds.map claimT)
theorem proofT_len {ds : List Dat} (h : ds ≠ []) : (proofT ds).length + 1 = szT (ds.map claimT) := joinL_len (by simpa using h)
theorem proofT_take0 {ds : List Dat} {d : Dat} (h : ds[0]? = some d) : proofT (ds.take 1) = claimT d := by
  unfold proofT
  rw [List.map_take, joinL_take0 (x := claimT d) (by rw [List.getElem?_map, h]; rfl)]
theorem proofT_take {ds : List Dat} {k : Nat} {d : Dat} (h : ds[k]? = some d) (hk : 0 < k) : proofT (ds.take (k + 1)) = proofT (ds.take k) ++ [59] ++ claimT d := by
  unfold proofT
  rw [List.map_take, joinL_take (x := claimT d) (by rw [List.getElem?_map, h]; rfl) hk, ← List.map_take]
theorem proofT_take_len {ds : List Dat} {k : Nat} (hk : k < ds.length) : (proofT (ds.take (k + 1))).length ≤ (proofT ds).length := by
  have h1 := proofT_len (take_ne hk)
  have h2 := proofT_len (ds := ds) (fun e => by rw [e] at hk; exact absurd hk (by simp))
  have h3 := szT_take_le (ds.map claimT) (k + 1)
  rw [← List.map_take] at h3
  omega
theorem proofT_claim {ds : List Dat} {k : Nat} {d : Dat} (h : ds[k]? = some d) : (claimT d).length ≤ (proofT ds).length := by
  obtain ⟨hk, _⟩ := List.getElem?_eq_some_iff.1 h
  refine Nat.le_trans ?_ (proofT_take_len hk)
  rcases Nat.eq_zero_or_pos k with e | e
  · subst e
    rw [proofT_take0 h]
    exact Nat.le_refl _
  · rw [proofT_take h e, List.length_append]
    omega
/-- Are its two places among those of nodes? -/
def rngD (d : Dat) : Bool := inB (d.1.getD 0 0) 0 119 && inB (d.1.getD 1 0) 0 119
def ranges (ds : List Dat) : Bool := ds.all rngD
/-- Has the proof a text? -/
def told (ds : List Dat) : Bool := shape ds && ranges ds && decide ((proofT ds).length ≤ 4000)
def proofC (ds : List Dat) : ByteArray × Bool := if told ds = true then (strOfNums (proofT ds), true) else (ByteArray.empty, false)
theorem proofC_yes {ds : List Dat} (h : told ds = true) : proofC ds = (strOfNums (proofT ds), true) := if_pos h
theorem proofC_no {ds : List Dat} (h : told ds = false) : proofC ds = (ByteArray.empty, false) := by unfold proofC; rw [if_neg (by rw [h]; exact Bool.false_ne_true)]
theorem told_iff {ds : List Dat} : told ds = true ↔ shape ds = true ∧ (∀ (k : Nat) (d : Dat), ds[k]? = some d → rngD d = true) ∧ (proofT ds).length ≤ 4000 := by
  unfold told ranges
  rw [Bool.and_eq_true, Bool.and_eq_true, decide_eq_true_eq, List.all_eq_true]
  refine ⟨fun ⟨⟨h1, h2⟩, h3⟩ => ⟨h1, fun k d h => h2 d (List.mem_of_getElem? h), h3⟩, fun ⟨h1, h2, h3⟩ => ⟨⟨h1, fun d hd => ?_⟩, h3⟩⟩
  obtain ⟨k, hk⟩ := List.getElem?_of_mem hd
  exact h2 k d hk
theorem told_shape {ds : List Dat} (h : shape ds = false) : told ds = false := by unfold told; rw [h]; rfl
theorem told_rng {ds : List Dat} {k : Nat} {d : Dat} (h : ds[k]? = some d) (hd : rngD d = false) : told ds = false := by
  rw [← Bool.not_eq_true, told_iff]
  rintro ⟨_, h2, _⟩
  rw [h2 k d h] at hd
  cases hd
theorem told_long {ds : List Dat} (h : 4000 < (proofT ds).length) : told ds = false := by
  rw [← Bool.not_eq_true, told_iff]
  rintro ⟨_, _, h3⟩
  omega
/-- The numbers of a shape are small. -/
theorem shape_small {ds : List Dat} (h : shape ds = true) {k : Nat} {is xs ys : List Int} (hd : ds[k]? = some (is, [xs, ys])) : (∀ x ∈ xs, 0 ≤ x ∧ x < 1000) ∧ (∀ x ∈ ys, 0 ≤ x ∧ x < 1000) := by
  obtain ⟨h1, h2⟩ := shape_iff.1 h
  have hk := (List.getElem?_eq_some_iff.1 hd).1
  have h3 := h2 k _ hd
  rw [lowD_two, Bool.and_eq_true] at h3
  exact ⟨fun x hx => by have := low_iff.1 h3.1 x hx; omega, fun x hx => by have := low_iff.1 h3.2 x hx; omega⟩
end Go.Proofs.YtcogdogiceokdaaDoor
