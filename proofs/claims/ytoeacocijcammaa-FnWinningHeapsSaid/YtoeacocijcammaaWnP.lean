/- Positions of heaps behind a move, in order: the plain law. -/
import Derived.Test.YtoeacocijcammaaMvP
namespace Go.Proofs.Ytoeacocijcammaa

/-- Not falling. -/
abbrev Up (l : List Int) : Prop := l.Pairwise (· ≤ ·)
abbrev srt (l : List Int) : List Int := l.mergeSort fun a b => decide (a ≤ b)
theorem srt_perm (l : List Int) : (srt l).Perm l := List.mergeSort_perm _ _
theorem srt_up (l : List Int) : Up (srt l) := by
  have := List.pairwise_mergeSort (le := fun (a b : Int) => decide (a ≤ b)) (by intro a b c; simp; omega) (by intro a b; simp; omega) l
  exact this.imp (by intro a b h; simpa using h)
theorem up_eq {l m : List Int} (hl : Up l) (hm : Up m) (hp : l.Perm m) : l = m :=
  List.Perm.eq_of_pairwise (le := fun (a b : Int) => a ≤ b) (fun a b _ _ h1 h2 => by omega) hl hm hp
/-- A number put to its place. -/
def insI : List Int → Int → List Int
  | [], x => [x]
  | y :: l, x => if y < x then y :: insI l x else x :: y :: l
theorem insI_perm : ∀ (l : List Int) (x : Int), (insI l x).Perm (x :: l)
  | [], x => List.Perm.refl _
  | y :: l, x => by
    unfold insI
    split
    · exact ((insI_perm l x).cons y).trans (List.Perm.swap x y l)
    · exact List.Perm.refl _
theorem insI_up : ∀ {l : List Int} {x : Int}, Up l → Up (insI l x)
  | [], x, _ => List.pairwise_singleton _ _
  | y :: l, x, h => by
    have h' := List.pairwise_cons.1 h
    unfold insI
    split
    · rename_i hlt
      refine List.pairwise_cons.2 ⟨fun z hz => ?_, insI_up h'.2⟩
      rcases List.mem_cons.1 ((insI_perm l x).mem_iff.1 hz) with rfl | hz
      · omega
      · exact h'.1 z hz
    · rename_i hlt
      refine List.pairwise_cons.2 ⟨fun z hz => ?_, h⟩
      rcases List.mem_cons.1 hz with rfl | hz
      · omega
      · have := h'.1 z hz; omega
theorem insI_at : ∀ {l : List Int} {x : Int} {k : Nat}, k ≤ l.length → (∀ i, i < k → l.getD i 0 < x) → (k < l.length → ¬ l.getD k 0 < x) → insI l x = l.take k ++ x :: l.drop k
  | [], x, k, hk, _, _ => by
    have : k = 0 := by simpa using hk
    subst this; simp [insI]
  | y :: l, x, 0, _, _, h2 => by
    have hy := h2 (by simp)
    simp at hy
    unfold insI
    rw [if_neg (by omega)]; simp
  | y :: l, x, k + 1, hk, h1, h2 => by
    have hy := h1 0 (by omega)
    simp at hy
    unfold insI
    rw [if_pos hy, insI_at (k := k) (by simpa using hk) (fun i hi => by simpa using h1 (i + 1) (by omega)) (fun hl => by simpa using h2 (by simpa using hl))]
    simp
theorem insI_len (l : List Int) (x : Int) : (insI l x).length = l.length + 1 := by have := (insI_perm l x).length_eq; simpa using this
/-- The reference's sort: the numbers that are not 0, one by one. -/
def srtR (out : List Int) : List Int → List Int
  | [] => out
  | x :: l => srtR (if x = 0 then out else insI out x) l
theorem srtR_snoc : ∀ (l out : List Int) (x : Int), srtR out (l ++ [x]) = if x = 0 then srtR out l else insI (srtR out l) x
  | [], out, x => by simp [srtR]
  | y :: l, out, x => by simp only [List.cons_append, srtR]; exact srtR_snoc l _ x
theorem srtR_len : ∀ (l out : List Int), (srtR out l).length ≤ out.length + l.length
  | [], out => by simp [srtR]
  | x :: l, out => by
    unfold srtR
    have h2 := insI_len out x
    split
    · have h := srtR_len l out; simp; omega
    · have h := srtR_len l (insI out x); simp; omega
theorem srtR_up : ∀ {l out : List Int}, Up out → Up (srtR out l)
  | [], _, h => h
  | x :: l, out, h => by
    unfold srtR
    split
    · exact srtR_up h
    · exact srtR_up (insI_up h)
theorem srtR_perm : ∀ (l out : List Int), (srtR out l).Perm (out ++ l.filter (fun x => !(x == 0)))
  | [], out => by simp [srtR]
  | x :: l, out => by
    unfold srtR
    split
    · rename_i h; subst h
      simpa using srtR_perm l out
    · rename_i h
      refine (srtR_perm l (insI out x)).trans ?_
      have e : (x :: l).filter (fun x => !(x == 0)) = x :: l.filter (fun x => !(x == 0)) := by simp [List.filter_cons, h]
      rw [e]
      refine ((insI_perm out x).append_right _).trans ?_
      simpa using List.perm_middle.symm
/-- The filled heaps. -/
def fil (hs : List Int) : List Int := hs.filter fun x => decide (0 < x)
theorem srtR_eq {l : List Int} (h : ∀ x ∈ l, 0 ≤ x) : srtR [] l = srt (fil l) := by
  refine up_eq (srtR_up List.Pairwise.nil) (srt_up _) ((srtR_perm l []).trans ?_)
  have e : l.filter (fun x => !(x == 0)) = fil l := by
    unfold fil
    apply List.filter_congr
    intro x hx
    have := h x hx
    by_cases h0 : x = 0
    · simp [h0]
    · have h1 : 0 < x := by omega
      simp [h0, h1]
  rw [List.nil_append, e]
  exact (srt_perm _).symm
theorem srtR_pos {l : List Int} (h : ∀ x ∈ l, 1 ≤ x) : srtR [] l = srt l := by
  rw [srtR_eq (fun x hx => by have := h x hx; omega)]
  congr 1
  unfold fil
  rw [List.filter_eq_self]
  intro x hx; have := h x hx; simp; omega
theorem srt_of_up {l : List Int} (h : Up l) : srt l = l := List.mergeSort_of_pairwise (h.imp (by intro a b h; simpa using h))
theorem fil_up {l : List Int} (h : Up l) : Up (fil l) := h.filter _
theorem fil_mem {l : List Int} {x : Int} : x ∈ fil l ↔ x ∈ l ∧ 0 < x := by simp [fil]

/-- A position with the heap at a place left as a move says. -/
def aft (hs : List Int) (i : Nat) (m : List Int) : List Int := srt (hs.take i ++ hs.drop (i + 1) ++ m)
theorem aft_perm (hs : List Int) (i : Nat) (m : List Int) : (aft hs i m).Perm (hs.take i ++ hs.drop (i + 1) ++ m) := srt_perm _
theorem aft_up (hs : List Int) (i : Nat) (m : List Int) : Up (aft hs i m) := srt_up _
theorem sum_perm {l m : List Int} (h : l.Perm m) : l.sum = m.sum := by
  induction h with
  | nil => rfl
  | cons x _ ih => simp [ih]
  | swap x y l => simp; omega
  | trans _ _ h1 h2 => rw [h1, h2]
theorem split_at {hs : List Int} {i : Nat} (h : i < hs.length) : hs.Perm (hs.getD i 0 :: (hs.take i ++ hs.drop (i + 1))) := by
  have e : hs = hs.take i ++ hs.getD i 0 :: hs.drop (i + 1) := by
    have h1 := List.drop_eq_getElem_cons h
    have h2 : hs.getD i 0 = hs[i] := by simp [h]
    rw [h2, ← h1, List.take_append_drop]
  exact (List.Perm.of_eq e).trans List.perm_middle
theorem aft_sum {hs : List Int} {i : Nat} (m : List Int) (h : i < hs.length) : (aft hs i m).sum = hs.sum - hs.getD i 0 + m.sum := by
  rw [sum_perm (aft_perm hs i m), sum_perm (split_at h)]
  simp; omega
theorem aft_len {hs : List Int} {i : Nat} (m : List Int) (h : i < hs.length) : (aft hs i m).length = hs.length - 1 + m.length := by
  rw [(aft_perm hs i m).length_eq]
  simp; omega
theorem aft_mem {hs : List Int} {i : Nat} {m : List Int} {x : Int} (h : x ∈ aft hs i m) : x ∈ hs ∨ x ∈ m := by
  have := (aft_perm hs i m).mem_iff.1 h
  simp only [List.mem_append] at this
  rcases this with (h | h) | h
  · exact .inl (List.mem_of_mem_take h)
  · exact .inl (List.mem_of_mem_drop h)
  · exact .inr h
/-- A good position: heaps of 1 to 300, not falling. -/
def Pos (hs : List Int) : Prop := Up hs ∧ ∀ x ∈ hs, 1 ≤ x ∧ x ≤ 300
theorem mvs_facts {xs : List Int} {h : Nat} {m : List Int} (hm : m ∈ mvs xs h) : m.length ≤ 2 ∧ m.sum < (h : Int) ∧ (∀ x ∈ m, 1 ≤ x ∧ x ≤ (h : Int)) := by
  obtain ⟨i, hi, hih, h1⟩ := mvs_mem.1 hm
  obtain ⟨h2, h3, h4, _⟩ := mvK_facts h1
  refine ⟨h2, by omega, fun x hx => ⟨h4 x hx, ?_⟩⟩
  rcases mvK_mem.1 h1 with ⟨rfl, _, _⟩ | ⟨rfl, _, _⟩ | ⟨j, rfl, _, hj⟩
  · simp at hx
  · simp at hx; omega
  · simp only [List.mem_cons, List.not_mem_nil, or_false] at hx
    rcases hx with rfl | rfl <;> omega
theorem Pos.aft {hs : List Int} {i : Nat} {xs m : List Int} (hp : Pos hs) (hi : i < hs.length) (hm : m ∈ mvs xs (hs.getD i 0).toNat) : Pos (aft hs i m) := by
  refine ⟨aft_up _ _ _, fun x hx => ?_⟩
  rcases aft_mem hx with h | h
  · exact hp.2 x h
  · have h0 := hp.2 (hs.getD i 0) (by simp [hi])
    have := (mvs_facts hm).2.2 x h
    omega

/-- Places whose heap stands not at the place before: what each of its moves leaves. -/
def candAt (xs hs : List Int) (i : Nat) : List (List Int) := if 0 < i ∧ hs.getD (i - 1) 0 = hs.getD i 0 then [] else (moves xs (hs.getD i 0).toNat).map (aft hs i)
def candTo (xs hs : List Int) : Nat → List (List Int)
  | 0 => []
  | i + 1 => candTo xs hs i ++ candAt xs hs i
def cand (xs hs : List Int) : List (List Int) := candTo xs hs hs.length
theorem candTo_mem {xs hs : List Int} {p : List Int} : ∀ {k}, p ∈ candTo xs hs k ↔ ∃ i, i < k ∧ p ∈ candAt xs hs i
  | 0 => by simp [candTo]
  | k + 1 => by
    rw [candTo, List.mem_append, candTo_mem (k := k)]
    constructor
    · rintro (⟨i, hi, h⟩ | h)
      · exact ⟨i, by omega, h⟩
      · exact ⟨k, by omega, h⟩
    · rintro ⟨i, hi, h⟩
      rcases Nat.lt_or_ge i k with h1 | h1
      · exact .inl ⟨i, h1, h⟩
      · obtain rfl : i = k := by omega
        exact .inr h
/-- All positions that one move can reach, and those of the value 0. -/
def rch (xs hs : List Int) : List (List Int) := putAll [] (cand xs hs)
def val0 (xs : List Int) (p : List Int) : Bool := xorF xs 0 p == 0
def win (xs hs : List Int) : List (List Int) := (rch xs hs).filter (val0 xs)
theorem rch_asc (xs hs : List Int) : Asc (rch xs hs) := putAll_asc Asc.nil
theorem rch_mem {xs hs p : List Int} : p ∈ rch xs hs ↔ p ∈ cand xs hs := by unfold rch; rw [putAll_mem]; simp
/-- The reference takes those of the value 0 as it puts them. -/
theorem win_eq (xs hs : List Int) : putAll [] ((cand xs hs).filter (val0 xs)) = win xs hs :=
  Asc.ext (putAll_asc Asc.nil) ((rch_asc xs hs).filter _) fun p => by
    rw [putAll_mem]
    unfold win
    simp only [List.mem_filter, rch_mem, List.not_mem_nil, false_or]
end Go.Proofs.Ytoeacocijcammaa
