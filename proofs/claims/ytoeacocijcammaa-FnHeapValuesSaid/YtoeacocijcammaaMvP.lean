/- Moves of heaps: the plain law: which lists a move may leave, and what their values are. -/
/- Positions of heaps behind a move, in order: the plain law. -/
/- Positions of heaps behind a move, as the reference takes them: empty heaps and all. -/
/- A play of heaps: the plain law. -/
/- Who has a winning move: the plain law. -/
import Derived.Test.YtoeacocijcammaaHvE
import Derived.Test.YtoeacocijcammaaLlP
namespace Go.Proofs.Ytoeacocijcammaa

def mv1 (d rest : Nat) : List (List Int) := if d % 2 = 1 ∧ rest = 0 then [[]] else []
def mv2 (d rest : Nat) : List (List Int) := if d / 2 % 2 = 1 ∧ 0 < rest then [[(rest : Int)]] else []
def prs (rest m : Nat) : List (List Int) := (List.range m).map fun (j : Nat) => [((j + 1 : Nat) : Int), ((rest - (j + 1) : Nat) : Int)]
theorem prs_succ (rest m : Nat) : prs rest (m + 1) = prs rest m ++ [[((m + 1 : Nat) : Int), ((rest - (m + 1) : Nat) : Int)]] := by simp [prs, List.range_succ]
theorem prs_len (rest m : Nat) : (prs rest m).length = m := by simp [prs]
def mv4 (d rest : Nat) : List (List Int) := if d / 4 % 2 = 1 then prs rest (rest / 2) else []
def mvK (d rest : Nat) : List (List Int) := mv1 d rest ++ mv2 d rest ++ mv4 d rest
/-- What the first k digits let a heap of h become, in the text's order. -/
def mvTo (xs : List Int) (h : Nat) : Nat → List (List Int)
  | 0 => []
  | k + 1 => mvTo xs h k ++ mvK (xs.getD k 0).toNat (h - (k + 1))
def mvs (xs : List Int) (h : Nat) : List (List Int) := mvTo xs h (min xs.length h)
/-- .. in order, each once. -/
def moves (xs : List Int) (h : Nat) : List (List Int) := putAll [] (mvs xs h)

theorem mvK_len (d rest : Nat) : (mvK d rest).length ≤ rest + 2 := by
  unfold mvK mv1 mv2 mv4
  simp only [List.length_append]
  have : ∀ (c : Prop) [Decidable c] (l : List (List Int)), (if c then l else []).length ≤ l.length := by intro c _ l; split <;> simp
  have h1 := this (d % 2 = 1 ∧ rest = 0) [[]]
  have h2 := this (d / 2 % 2 = 1 ∧ 0 < rest) [[(rest : Int)]]
  have h3 := this (d / 4 % 2 = 1) (prs rest (rest / 2))
  rw [prs_len] at h3
  simp only [List.length_singleton] at h1 h2
  by_cases h0 : rest = 0
  · subst h0; omega
  · have e : (if d % 2 = 1 ∧ rest = 0 then ([[]] : List (List Int)) else []) = [] := if_neg (fun h => h0 h.2)
    rw [e]; simp only [List.length_nil]; omega
theorem mvTo_len (xs : List Int) (h : Nat) : ∀ k, (mvTo xs h k).length ≤ k * (h + 2)
  | 0 => by simp [mvTo]
  | k + 1 => by
    have h1 := mvTo_len xs h k
    have h2 := mvK_len (xs.getD k 0).toNat (h - (k + 1))
    simp only [mvTo, List.length_append]
    rw [Nat.add_mul]
    omega
theorem mvs_len {xs : List Int} {h : Nat} (hx : xs.length ≤ 6) (hh : h ≤ 300) : (mvs xs h).length ≤ 1812 := by
  have h1 := mvTo_len xs h (min xs.length h)
  have : min xs.length h * (h + 2) ≤ 6 * 302 := Nat.mul_le_mul (by omega) (by omega)
  unfold mvs; omega
theorem moves_len {xs : List Int} {h : Nat} (hx : xs.length ≤ 6) (hh : h ≤ 300) : (moves xs h).length ≤ 1812 := by
  have h1 := putAll_len (mvs xs h) []
  have h2 := mvs_len hx hh
  unfold moves; simp at h1; omega
theorem moves_mem {xs : List Int} {h : Nat} {m : List Int} : m ∈ moves xs h ↔ m ∈ mvs xs h := by unfold moves; rw [putAll_mem]; simp
theorem moves_asc (xs : List Int) (h : Nat) : Asc (moves xs h) := putAll_asc Asc.nil
theorem mvTo_mem {xs : List Int} {h : Nat} {m : List Int} : ∀ {k}, m ∈ mvTo xs h k ↔ ∃ i, i < k ∧ m ∈ mvK (xs.getD i 0).toNat (h - (i + 1))
  | 0 => by simp [mvTo]
  | k + 1 => by
    rw [mvTo, List.mem_append, mvTo_mem (k := k)]
    constructor
    · rintro (⟨i, hi, h⟩ | h)
      · exact ⟨i, by omega, h⟩
      · exact ⟨k, by omega, h⟩
    · rintro ⟨i, hi, h⟩
      rcases Nat.lt_or_ge i k with h1 | h1
      · exact .inl ⟨i, h1, h⟩
      · obtain rfl : i = k := by omega
        exact .inr h
theorem mvs_mem {xs : List Int} {h : Nat} {m : List Int} : m ∈ mvs xs h ↔ ∃ i, i < xs.length ∧ i < h ∧ m ∈ mvK (xs.getD i 0).toNat (h - (i + 1)) := by
  unfold mvs
  rw [mvTo_mem]
  exact ⟨fun ⟨i, hi, h⟩ => ⟨i, by omega, by omega, h⟩, fun ⟨i, h1, h2, h⟩ => ⟨i, by omega, h⟩⟩
/-- The three ways. -/
theorem mvK_mem {d rest : Nat} {m : List Int} : m ∈ mvK d rest ↔
    (m = [] ∧ d % 2 = 1 ∧ rest = 0) ∨ (m = [(rest : Int)] ∧ d / 2 % 2 = 1 ∧ 0 < rest) ∨ (∃ j, m = [((j + 1 : Nat) : Int), ((rest - (j + 1) : Nat) : Int)] ∧ d / 4 % 2 = 1 ∧ j < rest / 2) := by
  unfold mvK mv1 mv2 mv4 prs
  rw [List.mem_append, List.mem_append, or_assoc]
  refine or_congr ?_ (or_congr ?_ ?_)
  · split
    · rename_i h; simp [h]
    · rename_i h; simp; intro _; simpa using h
  · split
    · rename_i h; simp [h]
    · rename_i h; simp; intro _; simpa using h
  · split
    · rename_i h
      simp only [List.mem_map, List.mem_range]
      exact ⟨fun ⟨j, hj, e⟩ => ⟨j, e.symm, h, hj⟩, fun ⟨j, e, _, hj⟩ => ⟨j, hj, e.symm⟩⟩
    · rename_i h
      simp
      intro j _ h2; exact absurd h2 h
/-- What a move leaves: numbers from 1 on, their sum, how many they are. -/
theorem mvK_facts {d rest : Nat} {m : List Int} (h : m ∈ mvK d rest) : m.length ≤ 2 ∧ m.sum = (rest : Int) ∧ (∀ x ∈ m, 1 ≤ x) ∧ d / 2 ^ m.length % 2 = 1 := by
  rcases mvK_mem.1 h with ⟨rfl, h1, h2⟩ | ⟨rfl, h1, h2⟩ | ⟨j, rfl, h1, h2⟩
  · subst h2; simp [h1]
  · refine ⟨by simp, by simp, by simp; omega, by simpa using h1⟩
  · refine ⟨by simp, by simp; omega, ?_, by simpa using h1⟩
    intro x hx
    simp only [List.mem_cons, List.not_mem_nil, or_false] at hx
    rcases hx with rfl | rfl <;> omega
end Go.Proofs.Ytoeacocijcammaa
namespace Go.Proofs.Ytoeacocijcammaa

/-- Not falling. -/
abbrev Up (l : List Int) : Prop := l.Pairwise (· ≤ ·)
abbrev srt (l : List Int) : List Int := l.mergeSort fun a b => decide (a ≤ b)
theorem srt_perm (l : List Int) : (srt l).Perm l := List.mergeSort_perm _ _
theorem srt_up (l : List Int) : Up (srt l) := by
  have := List.pairwise_mergeSort (le := fun (a b : Int) => decide (a ≤ b)) (by intro a b c; simp; omega) (by intro a b; simp; omega) l
  exact this.imp (by intro a b h; simpa using h)
theorem up_eq {l m : List Int} (hl : Up l) (hm : Up m) (hp : l.Perm m) : l = m :=
  List.Perm.eq_of_pairwise (le := fun (a b : Int) => a ≤ b) (fun a b _ _ h1 h2 => by omega) hl hm hp
/-- A number put to its place. -/
def insI : List Int → Int → List Int
  | [], x => [x]
  | y :: l, x => if y < x then y :: insI l x else x :: y :: l
theorem insI_perm : ∀ (l : List Int) (x : Int), (insI l x).Perm (x :: l)
  | [], x => List.Perm.refl _
  | y :: l, x => by
    unfold insI
    split
    · exact ((insI_perm l x).cons y).trans (List.Perm.swap x y l)
    · exact List.Perm.refl _
theorem insI_up : ∀ {l : List Int} {x : Int}, Up l → Up (insI l x)
  | [], x, _ => List.pairwise_singleton _ _
  | y :: l, x, h => by
    have h' := List.pairwise_cons.1 h
    unfold insI
    split
    · rename_i hlt
      refine List.pairwise_cons.2 ⟨fun z hz => ?_, insI_up h'.2⟩
      rcases List.mem_cons.1 ((insI_perm l x).mem_iff.1 hz) with rfl | hz
      · omega
      · exact h'.1 z hz
    · rename_i hlt
      refine List.pairwise_cons.2 ⟨fun z hz => ?_, h⟩
      rcases List.mem_cons.1 hz with rfl | hz
      · omega
      · have := h'.1 z hz; omega
theorem insI_at : ∀ {l : List Int} {x : Int} {k : Nat}, k ≤ l.length → (∀ i, i < k → l.getD i 0 < x) → (k < l.length → ¬ l.getD k 0 < x) → insI l x = l.take k ++ x :: l.drop k
  | [], x, k, hk, _, _ => by
    have : k = 0 := by simpa using hk
    subst this; simp [insI]
  | y :: l, x, 0, _, _, h2 => by
    have hy := h2 (by simp)
    simp at hy
    unfold insI
    rw [if_neg (by omega)]; simp
  | y :: l, x, k + 1, hk, h1, h2 => by
    have hy := h1 0 (by omega)
    simp at hy
    unfold insI
    rw [if_pos hy, insI_at (k := k) (by simpa using hk) (fun i hi => by simpa using h1 (i + 1) (by omega)) (fun hl => by simpa using h2 (by simpa using hl))]
    simp
theorem insI_len (l : List Int) (x : Int) : (insI l x).length = l.length + 1 := by have := (insI_perm l x).length_eq; simpa using this
/-- The reference's sort: the numbers that are not 0, one by one. -/
def srtR (out : List Int) : List Int → List Int
  | [] => out
  | x :: l => srtR (if x = 0 then out else insI out x) l
theorem srtR_snoc : ∀ (l out : List Int) (x : Int), srtR out (l ++ [x]) = if x = 0 then srtR out l else insI (srtR out l) x
  | [], out, x => by simp [srtR]
  | y :: l, out, x => by simp only [List.cons_append, srtR]; exact srtR_snoc l _ x
theorem srtR_len : ∀ (l out : List Int), (srtR out l).length ≤ out.length + l.length
  | [], out => by simp [srtR]
  | x :: l, out => by
    unfold srtR
    have h2 := insI_len out x
    split
    · have h := srtR_len l out; simp; omega
    · have h := srtR_len l (insI out x); simp; omega
theorem srtR_up : ∀ {l out : List Int}, Up out → Up (srtR out l)
  | [], _, h => h
  | x :: l, out, h => by
    unfold srtR
    split
    · exact srtR_up h
    · exact srtR_up (insI_up h)
theorem srtR_perm : ∀ (l out : List Int), (srtR out l).Perm (out ++ l.filter (fun x => !(x == 0)))
  | [], out => by simp [srtR]
  | x :: l, out => by
    unfold srtR
    split
    · rename_i h; subst h
      simpa using srtR_perm l out
    · rename_i h
      refine (srtR_perm l (insI out x)).trans ?_
      have e : (x :: l).filter (fun x => !(x == 0)) = x :: l.filter (fun x => !(x == 0)) := by simp [List.filter_cons, h]
      rw [e]
      refine ((insI_perm out x).append_right _).trans ?_
      simpa using List.perm_middle.symm
/-- The filled heaps. -/
def fil (hs : List Int) : List Int := hs.filter fun x => decide (0 < x)
theorem srtR_eq {l : List Int} (h : ∀ x ∈ l, 0 ≤ x) : srtR [] l = srt (fil l) := by
  refine up_eq (srtR_up List.Pairwise.nil) (srt_up _) ((srtR_perm l []).trans ?_)
  have e : l.filter (fun x => !(x == 0)) = fil l := by
    unfold fil
    apply List.filter_congr
    intro x hx
    have := h x hx
    by_cases h0 : x = 0
    · simp [h0]
    · have h1 : 0 < x := by omega
      simp [h0, h1]
  rw [List.nil_append, e]
  exact (srt_perm _).symm
theorem srtR_pos {l : List Int} (h : ∀ x ∈ l, 1 ≤ x) : srtR [] l = srt l := by
  rw [srtR_eq (fun x hx => by have := h x hx; omega)]
  congr 1
  unfold fil
  rw [List.filter_eq_self]
  intro x hx; have := h x hx; simp; omega
theorem srt_of_up {l : List Int} (h : Up l) : srt l = l := List.mergeSort_of_pairwise (h.imp (by intro a b h; simpa using h))
theorem fil_up {l : List Int} (h : Up l) : Up (fil l) := h.filter _
theorem fil_mem {l : List Int} {x : Int} : x ∈ fil l ↔ x ∈ l ∧ 0 < x := by simp [fil]

/-- A position with the heap at a place left as a move says. -/
def aft (hs : List Int) (i : Nat) (m : List Int) : List Int := srt (hs.take i ++ hs.drop (i + 1) ++ m)
theorem aft_perm (hs : List Int) (i : Nat) (m : List Int) : (aft hs i m).Perm (hs.take i ++ hs.drop (i + 1) ++ m) := srt_perm _
theorem aft_up (hs : List Int) (i : Nat) (m : List Int) : Up (aft hs i m) := srt_up _
theorem sum_perm {l m : List Int} (h : l.Perm m) : l.sum = m.sum := by
  induction h with
  | nil => rfl
  | cons x _ ih => simp [ih]
  | swap x y l => simp; omega
  | trans _ _ h1 h2 => rw [h1, h2]
theorem split_at {hs : List Int} {i : Nat} (h : i < hs.length) : hs.Perm (hs.getD i 0 :: (hs.take i ++ hs.drop (i + 1))) := by
  have e : hs = hs.take i ++ hs.getD i 0 :: hs.drop (i + 1) := by
    have h1 := List.drop_eq_getElem_cons h
    have h2 : hs.getD i 0 = hs[i] := by simp [h]
    rw [h2, ← h1, List.take_append_drop]
  exact (List.Perm.of_eq e).trans List.perm_middle
theorem aft_sum {hs : List Int} {i : Nat} (m : List Int) (h : i < hs.length) : (aft hs i m).sum = hs.sum - hs.getD i 0 + m.sum := by
  rw [sum_perm (aft_perm hs i m), sum_perm (split_at h)]
  simp; omega
theorem aft_len {hs : List Int} {i : Nat} (m : List Int) (h : i < hs.length) : (aft hs i m).length = hs.length - 1 + m.length := by
  rw [(aft_perm hs i m).length_eq]
  simp; omega
theorem aft_mem {hs : List Int} {i : Nat} {m : List Int} {x : Int} (h : x ∈ aft hs i m) : x ∈ hs ∨ x ∈ m := by
  have := (aft_perm hs i m).mem_iff.1 h
  simp only [List.mem_append] at this
  rcases this with (h | h) | h
  · exact .inl (List.mem_of_mem_take h)
  · exact .inl (List.mem_of_mem_drop h)
  · exact .inr h
/-- A good position: heaps of 1 to 300, not falling. -/
def Pos (hs : List Int) : Prop := Up hs ∧ ∀ x ∈ hs, 1 ≤ x ∧ x ≤ 300
theorem mvs_facts {xs : List Int} {h : Nat} {m : List Int} (hm : m ∈ mvs xs h) : m.length ≤ 2 ∧ m.sum < (h : Int) ∧ (∀ x ∈ m, 1 ≤ x ∧ x ≤ (h : Int)) := by
  obtain ⟨i, hi, hih, h1⟩ := mvs_mem.1 hm
  obtain ⟨h2, h3, h4, _⟩ := mvK_facts h1
  refine ⟨h2, by omega, fun x hx => ⟨h4 x hx, ?_⟩⟩
  rcases mvK_mem.1 h1 with ⟨rfl, _, _⟩ | ⟨rfl, _, _⟩ | ⟨j, rfl, _, hj⟩
  · simp at hx
  · simp at hx; omega
  · simp only [List.mem_cons, List.not_mem_nil, or_false] at hx
    rcases hx with rfl | rfl <;> omega
theorem Pos.aft {hs : List Int} {i : Nat} {xs m : List Int} (hp : Pos hs) (hi : i < hs.length) (hm : m ∈ mvs xs (hs.getD i 0).toNat) : Pos (aft hs i m) := by
  refine ⟨aft_up _ _ _, fun x hx => ?_⟩
  rcases aft_mem hx with h | h
  · exact hp.2 x h
  · have h0 := hp.2 (hs.getD i 0) (by simp [hi])
    have := (mvs_facts hm).2.2 x h
    omega

/-- Places whose heap stands not at the place before: what each of its moves leaves. -/
def candAt (xs hs : List Int) (i : Nat) : List (List Int) := if 0 < i ∧ hs.getD (i - 1) 0 = hs.getD i 0 then [] else (moves xs (hs.getD i 0).toNat).map (aft hs i)
def candTo (xs hs : List Int) : Nat → List (List Int)
  | 0 => []
  | i + 1 => candTo xs hs i ++ candAt xs hs i
def cand (xs hs : List Int) : List (List Int) := candTo xs hs hs.length
theorem candTo_mem {xs hs : List Int} {p : List Int} : ∀ {k}, p ∈ candTo xs hs k ↔ ∃ i, i < k ∧ p ∈ candAt xs hs i
  | 0 => by simp [candTo]
  | k + 1 => by
    rw [candTo, List.mem_append, candTo_mem (k := k)]
    constructor
    · rintro (⟨i, hi, h⟩ | h)
      · exact ⟨i, by omega, h⟩
      · exact ⟨k, by omega, h⟩
    · rintro ⟨i, hi, h⟩
      rcases Nat.lt_or_ge i k with h1 | h1
      · exact .inl ⟨i, h1, h⟩
      · obtain rfl : i = k := by omega
        exact .inr h
/-- All positions that one move can reach, and those of the value 0. -/
def rch (xs hs : List Int) : List (List Int) := putAll [] (cand xs hs)
def val0 (xs : List Int) (p : List Int) : Bool := xorF xs 0 p == 0
def win (xs hs : List Int) : List (List Int) := (rch xs hs).filter (val0 xs)
theorem rch_asc (xs hs : List Int) : Asc (rch xs hs) := putAll_asc Asc.nil
theorem rch_mem {xs hs p : List Int} : p ∈ rch xs hs ↔ p ∈ cand xs hs := by unfold rch; rw [putAll_mem]; simp
/-- The reference takes those of the value 0 as it puts them. -/
theorem win_eq (xs hs : List Int) : putAll [] ((cand xs hs).filter (val0 xs)) = win xs hs :=
  Asc.ext (putAll_asc Asc.nil) ((rch_asc xs hs).filter _) fun p => by
    rw [putAll_mem]
    unfold win
    simp only [List.mem_filter, rch_mem, List.not_mem_nil, false_or]
end Go.Proofs.Ytoeacocijcammaa
namespace Go.Proofs.Ytoeacocijcammaa

def candAtR (xs hs : List Int) (i : Nat) : List (List Int) := if 0 < i ∧ hs.getD i 0 = hs.getD (i - 1) 0 then [] else (moves xs (hs.getD i 0).toNat).map fun m => srtR [] (hs.take i ++ hs.drop (i + 1) ++ m)
def candToR (xs hs : List Int) : Nat → List (List Int)
  | 0 => []
  | i + 1 => candToR xs hs i ++ candAtR xs hs i
def candR (xs hs : List Int) : List (List Int) := candToR xs hs hs.length
theorem candToR_mem {xs hs : List Int} {p : List Int} : ∀ {k}, p ∈ candToR xs hs k ↔ ∃ i, i < k ∧ p ∈ candAtR xs hs i
  | 0 => by simp [candToR]
  | k + 1 => by
    rw [candToR, List.mem_append, candToR_mem (k := k)]
    constructor
    · rintro (⟨i, hi, h⟩ | h)
      · exact ⟨i, by omega, h⟩
      · exact ⟨k, by omega, h⟩
    · rintro ⟨i, hi, h⟩
      rcases Nat.lt_or_ge i k with h1 | h1
      · exact .inl ⟨i, h1, h⟩
      · obtain rfl : i = k := by omega
        exact .inr h
theorem mvs_len18 {xs : List Int} (h : Nat) (hx : xs.length ≤ 6) : (mvs xs h).length ≤ 18 * h := by
  rcases Nat.eq_zero_or_pos h with h0 | h0
  · subst h0; simp [mvs, mvTo]
  · have h1 := mvTo_len xs h (min xs.length h)
    have h2 : min xs.length h * (h + 2) ≤ 6 * (h + 2) := Nat.mul_le_mul (by omega) (Nat.le_refl _)
    unfold mvs; omega
theorem moves_len18 {xs : List Int} (h : Nat) (hx : xs.length ≤ 6) : (moves xs h).length ≤ 18 * h := by
  have h1 := putAll_len (mvs xs h) []
  have h2 := mvs_len18 h hx
  unfold moves; simp at h1; omega
theorem candToR_len {xs hs : List Int} (hx : xs.length ≤ 6) (hp : ∀ x ∈ hs, 0 ≤ x) : ∀ k, k ≤ hs.length → ((candToR xs hs k).length : Int) ≤ 18 * (hs.take k).sum
  | 0, _ => by simp [candToR]
  | k + 1, hk => by
    have ih := candToR_len hx hp k (by omega)
    have h1 : (candAtR xs hs k).length ≤ 18 * (hs.getD k 0).toNat := by
      unfold candAtR
      split
      · simp
      · rw [List.length_map]; exact moves_len18 _ hx
    have h2 : 0 ≤ hs.getD k 0 := hp _ (by have hk2 : k < hs.length := by omega
                                          simp [hk2])
    have h3 : (hs.take (k + 1)).sum = (hs.take k).sum + hs.getD k 0 := by
      have hk2 : k < hs.length := by omega
      rw [List.take_succ_eq_append_getElem hk2, List.sum_append]; simp [hk2]
    rw [candToR, List.length_append, h3]
    omega
theorem candTo_len {xs hs : List Int} (hx : xs.length ≤ 6) (hp : ∀ x ∈ hs, 0 ≤ x) : ∀ k, k ≤ hs.length → ((candTo xs hs k).length : Int) ≤ 18 * (hs.take k).sum
  | 0, _ => by simp [candTo]
  | k + 1, hk => by
    have ih := candTo_len hx hp k (by omega)
    have h1 : (candAt xs hs k).length ≤ 18 * (hs.getD k 0).toNat := by
      unfold candAt
      split
      · simp
      · rw [List.length_map]; exact moves_len18 _ hx
    have h2 : 0 ≤ hs.getD k 0 := hp _ (by have hk2 : k < hs.length := by omega
                                          simp [hk2])
    have h3 : (hs.take (k + 1)).sum = (hs.take k).sum + hs.getD k 0 := by
      have hk2 : k < hs.length := by omega
      rw [List.take_succ_eq_append_getElem hk2, List.sum_append]; simp [hk2]
    rw [candTo, List.length_append, h3]
    omega
theorem cand_facts {xs hs p : List Int} (h : p ∈ cand xs hs) : ∃ i m, i < hs.length ∧ m ∈ moves xs (hs.getD i 0).toNat ∧ p = aft hs i m := by
  obtain ⟨i, hi, h1⟩ := candTo_mem.1 h
  unfold candAt at h1
  split at h1
  · simp at h1
  · obtain ⟨m, hm, rfl⟩ := List.mem_map.1 h1
    exact ⟨i, m, hi, hm, rfl⟩
theorem cand_len {xs hs p : List Int} (h : p ∈ cand xs hs) : p.length ≤ hs.length + 1 := by
  obtain ⟨i, m, hi, hm, rfl⟩ := cand_facts h
  have := (mvs_facts (moves_mem.1 hm)).1
  rw [aft_len m hi]; omega
theorem sum_take_le {hs : List Int} (hp : ∀ x ∈ hs, 0 ≤ x) (k : Nat) : (hs.take k).sum ≤ hs.sum := by
  have h1 : hs.sum = (hs.take k).sum + (hs.drop k).sum := by rw [← List.sum_append, List.take_append_drop]
  have h2 : ∀ (l : List Int), (∀ x ∈ l, 0 ≤ x) → 0 ≤ l.sum := by
    intro l
    induction l with
    | nil => intro _; simp
    | cons a l ih => intro h; have := h a (by simp); have := ih (fun x hx => h x (by simp [hx])); simp; omega
  have := h2 (hs.drop k) (fun x hx => hp x (List.mem_of_mem_drop hx))
  omega
theorem moves_zero (xs : List Int) : moves xs 0 = [] := by simp [moves, mvs, mvTo, putAll]
/-- A position that does not fall: its empty heaps first. -/
theorem up_split : ∀ {hs : List Int}, Up hs → (∀ x ∈ hs, 0 ≤ x) → ∃ z, hs = List.replicate z 0 ++ fil hs ∧ (∀ x ∈ fil hs, 0 < x)
  | [], _, _ => ⟨0, rfl, fun x hx => by simp [fil] at hx⟩
  | a :: l, h, hp => by
    have h' := List.pairwise_cons.1 h
    obtain ⟨z, e, hz⟩ := up_split h'.2 (fun x hx => hp x (by simp [hx]))
    have ha := hp a (by simp)
    by_cases h0 : 0 < a
    · refine ⟨0, ?_, fun x hx => (fil_mem.1 hx).2⟩
      simp only [List.replicate_zero, List.nil_append]
      symm
      unfold fil
      rw [List.filter_eq_self]
      intro x hx
      rcases List.mem_cons.1 hx with rfl | hx
      · simpa using h0
      · have := h'.1 x hx; simp; omega
    · obtain rfl : a = 0 := by omega
      refine ⟨z + 1, ?_, fun x hx => (fil_mem.1 hx).2⟩
      have : fil (0 :: l) = fil l := by simp [fil]
      rw [this, List.replicate_succ, List.cons_append, ← e]
theorem fil_app (a b : List Int) : fil (a ++ b) = fil a ++ fil b := List.filter_append _ _
theorem fil_rep (z : Nat) : fil (List.replicate z 0) = [] := by simp [fil]
theorem fil_id {l : List Int} (h : ∀ x ∈ l, 0 < x) : fil l = l := by unfold fil; rw [List.filter_eq_self]; intro x hx; simpa using h x hx
theorem candAtR_zero {xs : List Int} {z i : Nat} {F : List Int} (h : i < z) : candAtR xs (List.replicate z 0 ++ F) i = [] := by
  have : (List.replicate z (0 : Int) ++ F).getD i 0 = 0 := by simp [List.getD, List.getElem?_append, h]
  unfold candAtR
  split
  · rfl
  · rw [this]; simp [moves_zero]
theorem candAtR_pos {xs : List Int} {z j : Nat} {F : List Int} (hF : ∀ x ∈ F, 0 < x) (hj : j < F.length) : candAtR xs (List.replicate z 0 ++ F) (z + j) = candAt xs F j := by
  have e1 : ∀ m, (List.replicate z (0 : Int) ++ F).getD (z + m) 0 = F.getD m 0 := by
    intro m; simp [List.getD, List.getElem?_append_right]
  have e2 : ∀ m, (List.replicate z (0 : Int) ++ F).take (z + m) = List.replicate z 0 ++ F.take m := by intro m; simp [List.take_append]
  have e3 : ∀ m, (List.replicate z (0 : Int) ++ F).drop (z + m) = F.drop m := by intro m; simp [List.drop_append]
  have hpos : 0 < F.getD j 0 := hF _ (by simp [hj])
  have hc : (0 < z + j ∧ (List.replicate z (0 : Int) ++ F).getD (z + j) 0 = (List.replicate z (0 : Int) ++ F).getD (z + j - 1) 0) ↔ (0 < j ∧ F.getD (j - 1) 0 = F.getD j 0) := by
    rcases Nat.eq_zero_or_pos j with h0 | h0
    · subst h0
      refine ⟨fun h => ?_, fun h => absurd h.1 (by omega)⟩
      exfalso
      obtain ⟨h1, h2⟩ := h
      rw [e1] at h2
      have : (List.replicate z (0 : Int) ++ F).getD (z + 0 - 1) 0 = 0 := by
        simp [List.getD, List.getElem?_append, show z - 1 < z by omega]
      rw [this] at h2; omega
    · rw [e1, show z + j - 1 = z + (j - 1) by omega, e1]
      exact ⟨fun h => ⟨h0, h.2.symm⟩, fun h => ⟨by omega, h.2.symm⟩⟩
  unfold candAtR candAt
  by_cases h : 0 < j ∧ F.getD (j - 1) 0 = F.getD j 0
  · rw [if_pos (hc.2 h), if_pos h]
  · rw [if_neg (fun k => h (hc.1 k)), if_neg h, e1]
    apply List.map_congr_left
    intro m hm
    have hm1 := (mvs_facts (moves_mem.1 hm)).2.2
    rw [e2, show z + j + 1 = z + (j + 1) by omega, e3, srtR_eq (by
      intro x hx
      simp only [List.mem_append] at hx
      rcases hx with ((hx | hx) | hx) | hx
      · have := List.eq_of_mem_replicate hx; omega
      · have := hF x (List.mem_of_mem_take hx); omega
      · have := hF x (List.mem_of_mem_drop hx); omega
      · have := hm1 x hx; omega)]
    rw [fil_app, fil_app, fil_app, fil_rep, List.nil_append, fil_id (fun x hx => hF x (List.mem_of_mem_take hx)), fil_id (fun x hx => hF x (List.mem_of_mem_drop hx)), fil_id (fun x hx => by have := hm1 x hx; omega)]
    rfl
theorem candR_mem {xs hs : List Int} (h : Up hs) (hp : ∀ x ∈ hs, 0 ≤ x) {p : List Int} : p ∈ candR xs hs ↔ p ∈ cand xs (fil hs) := by
  obtain ⟨z, e, hF⟩ := up_split h hp
  generalize fil hs = F at *
  subst e
  unfold candR cand
  rw [candToR_mem, candTo_mem]
  constructor
  · rintro ⟨i, hi, hm⟩
    rcases Nat.lt_or_ge i z with h1 | h1
    · rw [candAtR_zero h1] at hm; simp at hm
    · obtain ⟨j, rfl⟩ : ∃ j, i = z + j := ⟨i - z, by omega⟩
      have hj : j < F.length := by simp at hi; omega
      rw [candAtR_pos hF hj] at hm
      exact ⟨j, hj, hm⟩
  · rintro ⟨j, hj, hm⟩
    exact ⟨z + j, by simp; omega, by rw [candAtR_pos hF hj]; exact hm⟩
/-- What the reference finds. -/
theorem winR_eq {xs hs : List Int} (h : Up hs) (hp : ∀ x ∈ hs, 0 ≤ x) : putAll [] ((candR xs hs).filter (val0 xs)) = win xs (fil hs) :=
  Asc.ext (putAll_asc Asc.nil) ((rch_asc xs (fil hs)).filter _) fun p => by
    rw [putAll_mem]
    unfold win
    simp only [List.mem_filter, rch_mem, List.not_mem_nil, false_or, candR_mem h hp]
end Go.Proofs.Ytoeacocijcammaa
namespace Go.Proofs.Ytoeacocijcammaa

/-- The first move of the first heap from place i on that has one. -/
def fstF (xs F : List Int) : Nat → Nat → Option (List Int)
  | 0, _ => none
  | r + 1, i => match moves xs (F.getD i 0).toNat with
    | [] => fstF xs F r (i + 1)
    | m :: _ => some (aft F i m)
def firstMv (xs F : List Int) : Option (List Int) := fstF xs F F.length 0
theorem fstF_none {xs F : List Int} : ∀ {r i : Nat}, fstF xs F r i = none → ∀ j, i ≤ j → j < i + r → moves xs (F.getD j 0).toNat = []
  | 0, i, _, j, h1, h2 => absurd h2 (by omega)
  | r + 1, i, h, j, h1, h2 => by
    unfold fstF at h
    split at h
    · rename_i e
      by_cases hj : j = i
      · subst hj; exact e
      · exact fstF_none h j (by omega) (by omega)
    · cases h
theorem fstF_some {xs F p : List Int} : ∀ {r i : Nat}, fstF xs F r i = some p → ∃ j m, i ≤ j ∧ j < i + r ∧ m ∈ moves xs (F.getD j 0).toNat ∧ p = aft F j m
  | 0, i, h => by cases h
  | r + 1, i, h => by
    unfold fstF at h
    split at h
    · obtain ⟨j, m, h1, h2, h3⟩ := fstF_some h
      exact ⟨j, m, by omega, by omega, h3⟩
    · rename_i m l e
      cases h
      exact ⟨i, m, Nat.le_refl _, by omega, by rw [e]; simp, rfl⟩
theorem fst_win {xs F : List Int} (h : firstMv xs F = none) : win xs F = [] := by
  have hc : cand xs F = [] := by
    cases e : cand xs F with
    | nil => rfl
    | cons p l =>
      obtain ⟨i, m, hi, hm, _⟩ := cand_facts (p := p) (xs := xs) (hs := F) (by rw [e]; simp)
      rw [fstF_none h i (Nat.zero_le _) (by omega)] at hm
      simp at hm
  unfold win rch; rw [hc]; rfl
def nextP (xs F : List Int) : Option (List Int) := match win xs F with
  | p :: _ => some p
  | [] => firstMv xs F
theorem nextP_none {xs F : List Int} (h : nextP xs F = none) : firstMv xs F = none ∧ win xs F = [] := by
  unfold nextP at h
  split at h
  · cases h
  · rename_i e; exact ⟨h, e⟩
theorem nextP_stop {xs F : List Int} (h : firstMv xs F = none) : nextP xs F = none := by unfold nextP; rw [fst_win h]; exact h
theorem nextP_win {xs F p : List Int} {l : List (List Int)} (h : win xs F = p :: l) : nextP xs F = some p := by unfold nextP; rw [h]
theorem nextP_fst {xs F p : List Int} (h : win xs F = []) (h2 : firstMv xs F = some p) : nextP xs F = some p := by unfold nextP; rw [h]; exact h2
/-- What one move leaves. -/
theorem nextP_facts {xs F p : List Int} (h : nextP xs F = some p) : ∃ i m, i < F.length ∧ m ∈ moves xs (F.getD i 0).toNat ∧ p = aft F i m := by
  unfold nextP at h
  split at h
  · rename_i q l e
    cases h
    have hq : p ∈ win xs F := by rw [e]; simp
    exact cand_facts (rch_mem.1 (List.mem_filter.1 hq).1)
  · obtain ⟨j, m, _, h2, h3, h4⟩ := fstF_some h
    exact ⟨j, m, by omega, h3, h4⟩
theorem after_pos {xs F p : List Int} (hp : Pos F) {i : Nat} {m : List Int} (hi : i < F.length) (hm : m ∈ moves xs (F.getD i 0).toNat) (e : p = aft F i m) : Pos p ∧ p.sum < F.sum := by
  subst e
  have hm' := moves_mem.1 hm
  have h0 := hp.2 (F.getD i 0) (by simp [hi])
  have h1 := (mvs_facts hm').2.1
  exact ⟨hp.aft hi hm', by rw [aft_sum m hi]; omega⟩
theorem nextP_pos {xs F p : List Int} (hp : Pos F) (h : nextP xs F = some p) : Pos p ∧ p.sum < F.sum := by
  obtain ⟨i, m, hi, hm, e⟩ := nextP_facts h
  exact after_pos hp hi hm e
theorem pos_sum : ∀ {F : List Int}, (∀ x ∈ F, 1 ≤ x) → (F.length : Int) ≤ F.sum
  | [], _ => by simp
  | a :: l, h => by
    have h1 := h a (by simp)
    have h2 := pos_sum (F := l) (fun x hx => h x (by simp [hx]))
    simp only [List.length_cons, List.sum_cons]; omega
theorem Pos.len {F : List Int} (h : Pos F) : (F.length : Int) ≤ F.sum := pos_sum fun x hx => (h.2 x hx).1
/-- A play, of f moves at most. -/
def play (xs : List Int) : Nat → List Int → List (List Int)
  | 0, _ => []
  | f + 1, F => match nextP xs F with
    | none => []
    | some p => p :: play xs f p
theorem play_succ (xs : List Int) (f : Nat) (F : List Int) : play xs (f + 1) F = match nextP xs F with | none => [] | some p => p :: play xs f p := rfl
theorem play_more {xs : List Int} : ∀ {f f' : Nat} {F : List Int}, Pos F → F.sum.toNat < f → F.sum.toNat < f' → play xs f F = play xs f' F
  | 0, _, _, _, h, _ => absurd h (by omega)
  | _ + 1, 0, _, _, _, h => absurd h (by omega)
  | f + 1, f' + 1, F, hp, h1, h2 => by
    unfold play
    cases e : nextP xs F with
    | none => rfl
    | some p =>
      obtain ⟨hp2, hs⟩ := nextP_pos hp e
      have h0 := hp2.len
      simp only
      rw [play_more (f := f) (f' := f') hp2 (by omega) (by omega)]
def plays (xs F : List Int) : List (List Int) := play xs (F.sum.toNat + 1) F
theorem plays_none {xs F : List Int} (h : nextP xs F = none) : plays xs F = [] := by rw [plays, play_succ, h]
theorem plays_some {xs F p : List Int} (hp : Pos F) (h : nextP xs F = some p) : plays xs F = p :: plays xs p := by
  obtain ⟨hp2, hs⟩ := nextP_pos hp h
  have h0 := hp2.len
  have h1 : plays xs F = p :: play xs F.sum.toNat p := by rw [plays, play_succ, h]
  rw [h1, plays, play_more (f := F.sum.toNat) (f' := p.sum.toNat + 1) hp2 (by omega) (by omega)]
theorem play_len {xs : List Int} : ∀ (f : Nat) (F : List Int), (play xs f F).length ≤ f
  | 0, _ => by simp [play]
  | f + 1, F => by
    unfold play
    split
    · simp
    · rename_i p _; have := play_len (xs := xs) f p; simp; omega
theorem play_mem {xs : List Int} : ∀ {f : Nat} {F p : List Int}, Pos F → p ∈ play xs f F → Pos p ∧ p.sum < F.sum
  | 0, _, _, _, h => by simp [play] at h
  | f + 1, F, p, hp, h => by
    unfold play at h
    split at h
    · simp at h
    · rename_i q e
      obtain ⟨hq, hs⟩ := nextP_pos hp e
      rcases List.mem_cons.1 h with rfl | h
      · exact ⟨hq, hs⟩
      · obtain ⟨h1, h2⟩ := play_mem hq h
        exact ⟨h1, by omega⟩
theorem plays_len {xs F : List Int} {b : Nat} (h : F.sum ≤ b) : (plays xs F).length ≤ b + 1 := by
  have := play_len (xs := xs) (F.sum.toNat + 1) F
  unfold plays; omega
theorem plays_mem {xs F p : List Int} (hp : Pos F) (h : p ∈ plays xs F) : Pos p ∧ p.sum < F.sum := play_mem hp h
/-- The filled heaps of a good position. -/
theorem fil_pos {hs : List Int} (h : Up hs) (hr : ∀ x ∈ hs, x ≤ 300) : Pos (fil hs) := ⟨fil_up h, fun x hx => by have := fil_mem.1 hx; have := hr x this.1; omega⟩
theorem fil_of_pos {F : List Int} (h : Pos F) : fil F = F := fil_id fun x hx => by have := (h.2 x hx).1; omega
theorem fil_sum {hs : List Int} (h : Up hs) (hp : ∀ x ∈ hs, 0 ≤ x) : (fil hs).sum = hs.sum := by
  obtain ⟨z, e, _⟩ := up_split h hp
  have h2 : ∀ z : Nat, (List.replicate z (0 : Int)).sum = 0 := by
    intro z; induction z with
    | zero => rfl
    | succ z ih => rw [List.replicate_succ, List.sum_cons, ih]; rfl
  conv => rhs; rw [e]
  rw [List.sum_append, h2]; omega
end Go.Proofs.Ytoeacocijcammaa
namespace Go.Proofs.Ytoeacocijcammaa

theorem xorF_acc (xs : List Int) : ∀ (F : List Int) (a : Nat), xorF xs a F = a ^^^ xorF xs 0 F
  | [], a => by simp [xorF]
  | y :: l, a => by
    simp only [xorF]
    rw [xorF_acc xs l (a ^^^ _), xorF_acc xs l (0 ^^^ _), Nat.zero_xor, Nat.xor_assoc]
theorem xorF_cons (xs : List Int) (y : Int) (l : List Int) : xorF xs 0 (y :: l) = hV xs y.toNat ^^^ xorF xs 0 l := by
  show xorF xs (0 ^^^ hV xs y.toNat) l = _
  rw [xorF_acc, Nat.zero_xor]
theorem xorF_app (xs : List Int) : ∀ (a b : List Int), xorF xs 0 (a ++ b) = xorF xs 0 a ^^^ xorF xs 0 b
  | [], b => by simp [xorF]
  | y :: l, b => by rw [List.cons_append, xorF_cons, xorF_cons, xorF_app xs l b, Nat.xor_assoc]
theorem xorF_perm (xs : List Int) {a b : List Int} (h : a.Perm b) : xorF xs 0 a = xorF xs 0 b := by
  induction h with
  | nil => rfl
  | cons y _ ih => rw [xorF_cons, xorF_cons, ih]
  | swap y z l => rw [xorF_cons, xorF_cons, xorF_cons, xorF_cons, ← Nat.xor_assoc, ← Nat.xor_assoc, Nat.xor_comm (hV xs z.toNat)]
  | trans _ _ h1 h2 => exact h1.trans h2
theorem hV_at0 (xs : List Int) : hV xs 0 = 0 := by
  have h : mexN (opts xs (vals xs 0) 0) ≤ 0 := mexN_le fun x hx => by simp [opts, optsTo] at hx
  unfold hV; omega
theorem xorF_fil (xs : List Int) : ∀ {hs : List Int}, (∀ x ∈ hs, 0 ≤ x) → xorF xs 0 (fil hs) = xorF xs 0 hs
  | [], _ => rfl
  | y :: l, h => by
    have ih := xorF_fil xs (hs := l) (fun x hx => h x (by simp [hx]))
    have hy := h y (by simp)
    unfold fil at *
    by_cases h0 : 0 < y
    · rw [List.filter_cons_of_pos (by simpa using h0), xorF_cons, xorF_cons, ih]
    · have : y = 0 := by omega
      subst this
      rw [List.filter_cons_of_neg (by simp), xorF_cons, ih]
      show _ = hV xs 0 ^^^ _
      rw [hV_at0, Nat.zero_xor]
/-- What a move of one heap does. -/
theorem xorF_aft (xs : List Int) {F : List Int} {i : Nat} (m : List Int) (hi : i < F.length) : xorF xs 0 (aft F i m) = xorF xs 0 F ^^^ hV xs (F.getD i 0).toNat ^^^ xorF xs 0 m := by
  rw [xorF_perm xs (aft_perm F i m), xorF_app, xorF_perm xs (split_at hi), xorF_cons]
  generalize hV xs (F.getD i 0).toNat = a
  generalize xorF xs 0 (F.take i ++ F.drop (i + 1)) = b
  rw [Nat.xor_comm a b, Nat.xor_assoc b a a, Nat.xor_self, Nat.xor_zero]
theorem optK_mv (xs : List Int) {d rest h : Nat} (hr : rest < h) : optK (vals xs h) d rest = (mvK d rest).map (xorF xs 0) := by
  unfold optK mvK
  rw [List.map_append, List.map_append]
  congr 1
  · congr 1
    · unfold opt1 mv1; split <;> rfl
    · unfold opt2 mv2
      split
      · rw [hV_get xs hr]; simp [xorF]
      · rfl
  · unfold opt4 mv4
    split
    · unfold splits prs
      rw [List.map_map]
      refine List.map_congr_left fun j hj => ?_
      have := List.mem_range.1 hj
      rw [hV_get xs (by omega), hV_get xs (by omega)]
      show _ = xorF xs 0 [((j + 1 : Nat) : Int), ((rest - (j + 1) : Nat) : Int)]
      rw [xorF_cons, xorF_cons]
      simp [xorF]
    · rfl
theorem optsTo_mv (xs : List Int) (h : Nat) : ∀ k, k ≤ h → optsTo xs (vals xs h) h k = (mvTo xs h k).map (xorF xs 0)
  | 0, _ => rfl
  | k + 1, hk => by
    rw [optsTo, mvTo, List.map_append, optsTo_mv xs h k (by omega), optK_mv xs (by omega)]
theorem opts_mv (xs : List Int) (h : Nat) : opts xs (vals xs h) h = (mvs xs h).map (xorF xs 0) := optsTo_mv xs h _ (Nat.min_le_right _ _)
/-- A heap's value is the least number that no move leaves. -/
theorem hV_not {xs m : List Int} {h : Nat} (hm : m ∈ mvs xs h) : xorF xs 0 m ≠ hV xs h := fun e => by
  have : hV xs h ∈ opts xs (vals xs h) h := by rw [opts_mv, ← e]; exact List.mem_map_of_mem hm
  exact mexN_not _ this
theorem hV_all {xs : List Int} {h x : Nat} (hx : x < hV xs h) : ∃ m ∈ mvs xs h, xorF xs 0 m = x := by
  have := mexN_all _ x hx
  rw [opts_mv] at this
  obtain ⟨m, h1, h2⟩ := List.mem_map.1 this
  exact ⟨m, h1, h2⟩
theorem lt_top {a X k : Nat} (h1 : X / 2 ^ k % 2 = 1) (hX : X < 2 ^ (k + 1)) (h2 : a / 2 ^ k % 2 = 1) : a ^^^ X < a := by
  have hd : (a ^^^ X) / 2 ^ (k + 1) = a / 2 ^ (k + 1) := by
    rw [← Nat.shiftRight_eq_div_pow, ← Nat.shiftRight_eq_div_pow, Nat.shiftRight_xor_distrib, Nat.shiftRight_eq_div_pow X, Nat.div_eq_of_lt hX, Nat.xor_zero]
  have hb : (a ^^^ X) / 2 ^ k % 2 = 0 := by
    have h3 : (a ^^^ X).testBit k = false := by
      rw [Nat.testBit_xor, Nat.testBit_eq_decide_div_mod_eq, Nat.testBit_eq_decide_div_mod_eq]
      simp [h1, h2]
    rw [Nat.testBit_eq_decide_div_mod_eq] at h3
    have := of_decide_eq_false h3
    omega
  have e1 := Nat.mod_pow_succ (x := a ^^^ X) (b := 2) (k := k)
  have e2 := Nat.mod_pow_succ (x := a) (b := 2) (k := k)
  rw [hb, Nat.mul_zero, Nat.add_zero] at e1
  rw [h2, Nat.mul_one] at e2
  have l1 := Nat.mod_lt (a ^^^ X) (Nat.two_pow_pos k)
  have d1 := Nat.div_add_mod (a ^^^ X) (2 ^ (k + 1))
  have d2 := Nat.div_add_mod a (2 ^ (k + 1))
  rw [hd] at d1
  omega
theorem bit_one {xs : List Int} {k : Nat} : ∀ {F : List Int}, (xorF xs 0 F).testBit k = true → ∃ y ∈ F, (hV xs y.toNat).testBit k = true
  | [], h => by simp [xorF] at h
  | y :: l, h => by
    rw [xorF_cons, Nat.testBit_xor] at h
    cases hy : (hV xs y.toNat).testBit k
    · rw [hy] at h
      obtain ⟨z, h1, h2⟩ := bit_one (F := l) (by simpa using h)
      exact ⟨z, by simp [h1], h2⟩
    · exact ⟨y, by simp, hy⟩
theorem first_place {F : List Int} {y : Int} : ∀ (i : Nat), i < F.length → F.getD i 0 = y → ∃ j, j < F.length ∧ F.getD j 0 = y ∧ ¬ (0 < j ∧ F.getD (j - 1) 0 = F.getD j 0)
  | 0, h, e => ⟨0, h, e, fun h => absurd h.1 (by omega)⟩
  | i + 1, h, e => by
    by_cases h1 : F.getD i 0 = y
    · exact first_place i (by omega) h1
    · exact ⟨i + 1, h, e, fun h2 => h1 (by rw [← e]; exact h2.2)⟩
theorem win_some {xs F : List Int} (h : xorF xs 0 F ≠ 0) : win xs F ≠ [] := by
  have hk := Nat.log2_self_le h
  have hk2 := Nat.lt_log2_self (n := xorF xs 0 F)
  obtain ⟨X, hX⟩ : ∃ X, xorF xs 0 F = X := ⟨_, rfl⟩
  obtain ⟨k, hkk⟩ : ∃ k, (xorF xs 0 F).log2 = k := ⟨_, rfl⟩
  rw [hkk] at hk hk2
  have hb : X / 2 ^ k % 2 = 1 := by
    have h1 : X / 2 ^ k = 1 := by
      rw [hX] at hk hk2
      exact Nat.div_eq_of_lt_le (by omega) (by rw [Nat.pow_succ] at hk2; omega)
    rw [h1]
  obtain ⟨y, hy, hyb⟩ := bit_one (xs := xs) (k := k) (F := F) (by rw [Nat.testBit_eq_decide_div_mod_eq, hX, hb]; rfl)
  rw [Nat.testBit_eq_decide_div_mod_eq] at hyb
  have hlt := lt_top hb (by rw [hX] at hk2; exact hk2) (of_decide_eq_true hyb)
  obtain ⟨m, hm, hmx⟩ := hV_all hlt
  obtain ⟨i0, hi0, e0⟩ := List.mem_iff_getElem.1 hy
  obtain ⟨i, hi, he, hnd⟩ := first_place (F := F) (y := y) i0 hi0 (by simp [hi0, e0])
  have hmem : aft F i m ∈ win xs F := by
    refine List.mem_filter.2 ⟨rch_mem.2 (candTo_mem.2 ⟨i, hi, ?_⟩), ?_⟩
    · unfold candAt
      rw [if_neg hnd, he]
      exact List.mem_map_of_mem (moves_mem.2 hm)
    · unfold val0
      rw [xorF_aft xs m hi, he, hmx, hX]
      generalize hV xs y.toNat = a
      rw [← Nat.xor_assoc, Nat.xor_assoc X a a, Nat.xor_self, Nat.xor_zero, Nat.xor_self]; rfl
  intro e; rw [e] at hmem; simp at hmem
theorem aft_zero {xs F m : List Int} {i : Nat} (hi : i < F.length) (hm : m ∈ moves xs (F.getD i 0).toNat) (h0 : xorF xs 0 F = 0) : xorF xs 0 (aft F i m) ≠ 0 := fun e => by
  rw [xorF_aft xs m hi, h0, Nat.zero_xor] at e
  have h1 := hV_not (moves_mem.1 hm)
  apply h1
  have h2 : hV xs (F.getD i 0).toNat ^^^ (hV xs (F.getD i 0).toNat ^^^ xorF xs 0 m) = hV xs (F.getD i 0).toNat ^^^ 0 := by rw [e]
  rw [← Nat.xor_assoc, Nat.xor_self, Nat.zero_xor, Nat.xor_zero] at h2
  exact h2
theorem win_zero {xs F p : List Int} (h : p ∈ win xs F) : xorF xs 0 p = 0 := by
  have := (List.mem_filter.1 h).2
  unfold val0 at this
  simpa using this
/-- There is a winning move just where the value is not 0. -/
theorem win_nil {xs F : List Int} : win xs F = [] ↔ xorF xs 0 F = 0 := by
  constructor
  · intro h
    rcases Nat.eq_zero_or_pos (xorF xs 0 F) with h0 | h0
    · exact h0
    · exact absurd h (win_some (by omega))
  · intro h
    cases e : win xs F with
    | nil => rfl
    | cons p l =>
      have hp : p ∈ win xs F := by rw [e]; simp
      obtain ⟨i, m, hi, hm, rfl⟩ := cand_facts (rch_mem.1 (List.mem_filter.1 hp).1)
      exact absurd (win_zero hp) (aft_zero hi hm h)
/-- Who has a winning move makes the last one. -/
theorem plays_odd {xs : List Int} : ∀ (n : Nat) {F : List Int}, Pos F → F.sum ≤ n → ((plays xs F).length % 2 = 1 ↔ xorF xs 0 F ≠ 0)
  | n, F, hp, hn => by
    cases e : nextP xs F with
    | none =>
      rw [plays_none e]
      have h1 := win_nil.1 (nextP_none e).2
      simp [h1]
    | some p =>
      obtain ⟨hp2, hs⟩ := nextP_pos hp e
      have h0 := hp2.len
      cases n with
      | zero => omega
      | succ n =>
        have ih := plays_odd (xs := xs) n (F := p) hp2 (by omega)
        rw [plays_some hp e, List.length_cons]
        have hiff : xorF xs 0 p = 0 ↔ xorF xs 0 F ≠ 0 := by
          cases ew : win xs F with
          | nil =>
            have h1 := win_nil.1 ew
            obtain ⟨i, m, hi, hm, rfl⟩ := nextP_facts e
            have := aft_zero hi hm h1
            simp [h1, this]
          | cons q l =>
            have hq : q ∈ win xs F := by rw [ew]; simp
            rw [nextP_win ew] at e
            cases e
            have h1 := win_zero hq
            have h2 : xorF xs 0 F ≠ 0 := fun h => by rw [win_nil.2 h] at ew; cases ew
            simp [h1, h2]
        omega
/-- Each less than the one ahead. -/
def dec : Int → List (List Int) → Prop
  | _, [] => True
  | s, p :: l => p.sum < s ∧ dec p.sum l
theorem plays_dec {xs : List Int} : ∀ (n : Nat) {F : List Int}, Pos F → F.sum ≤ n → dec F.sum (plays xs F)
  | n, F, hp, hn => by
    cases e : nextP xs F with
    | none => rw [plays_none e]; exact True.intro
    | some p =>
      obtain ⟨hp2, hs⟩ := nextP_pos hp e
      have h0 := hp2.len
      cases n with
      | zero => omega
      | succ n =>
        rw [plays_some hp e]
        exact ⟨hs, plays_dec n hp2 (by omega)⟩
end Go.Proofs.Ytoeacocijcammaa
