/- Lists of numbers in order, each once: the plain law. -/
namespace Go.Proofs.Ytoeacocijcammaa

/-- Which of two numbers, of two lists, of two heaps' lists is ahead. -/
def cmpN (a b : Int) : Int := if a < b then -1 else if b < a then 1 else 0
def cmpL : List Int → List Int → Int
  | [], [] => 0
  | [], _ :: _ => -1
  | _ :: _, [] => 1
  | a :: as, b :: bs => if a < b then -1 else if b < a then 1 else cmpL as bs
def cmpH (a b : List Int) : Int := if a.length < b.length then -1 else if b.length < a.length then 1 else cmpL a b

theorem cmpL_cases : ∀ a b, cmpL a b = -1 ∨ cmpL a b = 0 ∨ cmpL a b = 1
  | [], [] => by simp [cmpL]
  | [], _ :: _ => by simp [cmpL]
  | _ :: _, [] => by simp [cmpL]
  | a :: as, b :: bs => by
    unfold cmpL
    split
    · simp
    · split
      · simp
      · exact cmpL_cases as bs
theorem cmpL_zero : ∀ {a b}, cmpL a b = 0 ↔ a = b
  | [], [] => by simp [cmpL]
  | [], _ :: _ => by simp [cmpL]
  | _ :: _, [] => by simp [cmpL]
  | a :: as, b :: bs => by
    unfold cmpL
    split
    · simp; intro h; omega
    · split
      · simp; intro h; omega
      · rw [cmpL_zero]
        simp
        intro _; omega
theorem cmpL_swap : ∀ a b, cmpL b a = - cmpL a b
  | [], [] => by simp [cmpL]
  | [], _ :: _ => by simp [cmpL]
  | _ :: _, [] => by simp [cmpL]
  | a :: as, b :: bs => by
    unfold cmpL
    split
    · split
      · omega
      · rfl
    · split
      · rfl
      · exact cmpL_swap as bs
theorem cmpL_trans : ∀ {a b c}, cmpL a b = -1 → cmpL b c = -1 → cmpL a c = -1
  | [], [], c => by simp [cmpL]
  | [], _ :: _, [] => by simp [cmpL]
  | [], _ :: _, _ :: _ => by simp [cmpL]
  | _ :: _, [], c => by simp [cmpL]
  | _ :: _, _ :: _, [] => by simp [cmpL]
  | a :: as, b :: bs, c :: cs => by
    unfold cmpL
    intro h1 h2
    by_cases h : a < b
    · by_cases h' : b < c
      · rw [if_pos (by omega)]
      · rw [if_neg h'] at h2
        by_cases h3 : c < b
        · rw [if_pos h3] at h2; omega
        · rw [if_pos (by omega)]
    · rw [if_neg h] at h1
      by_cases h3 : b < a
      · rw [if_pos h3] at h1; omega
      · rw [if_neg h3] at h1
        by_cases h' : b < c
        · rw [if_pos (by omega)]
        · rw [if_neg h'] at h2
          by_cases h4 : c < b
          · rw [if_pos h4] at h2; omega
          · rw [if_neg h4] at h2
            rw [if_neg (by omega), if_neg (by omega)]
            exact cmpL_trans h1 h2
theorem cmpH_cases (a b : List Int) : cmpH a b = -1 ∨ cmpH a b = 0 ∨ cmpH a b = 1 := by
  unfold cmpH
  split
  · simp
  · split
    · simp
    · exact cmpL_cases a b
theorem cmpH_zero {a b : List Int} : cmpH a b = 0 ↔ a = b := by
  unfold cmpH
  split
  · simp; intro h; subst h; omega
  · split
    · simp; intro h; subst h; omega
    · exact cmpL_zero
theorem cmpH_swap (a b : List Int) : cmpH b a = - cmpH a b := by
  unfold cmpH
  split
  · split
    · omega
    · rfl
  · split
    · rfl
    · exact cmpL_swap a b
theorem cmpH_trans {a b c : List Int} (h1 : cmpH a b = -1) (h2 : cmpH b c = -1) : cmpH a c = -1 := by
  unfold cmpH at *
  by_cases h : a.length < b.length
  · by_cases h' : b.length < c.length
    · rw [if_pos (by omega)]
    · rw [if_neg h'] at h2
      by_cases h3 : c.length < b.length
      · rw [if_pos h3] at h2; omega
      · rw [if_pos (by omega)]
  · rw [if_neg h] at h1
    by_cases h3 : b.length < a.length
    · rw [if_pos h3] at h1; omega
    · rw [if_neg h3] at h1
      by_cases h' : b.length < c.length
      · rw [if_pos (by omega)]
      · rw [if_neg h'] at h2
        by_cases h4 : c.length < b.length
        · rw [if_pos h4] at h2; omega
        · rw [if_neg h4] at h2
          rw [if_neg (by omega), if_neg (by omega)]
          exact cmpL_trans h1 h2
/-- One list stands ahead of another. -/
def LtH (a b : List Int) : Prop := cmpH a b < 0
instance (a b : List Int) : Decidable (LtH a b) := by unfold LtH; infer_instance
theorem LtH.eq {a b : List Int} : LtH a b ↔ cmpH a b = -1 := by
  unfold LtH
  rcases cmpH_cases a b with h | h | h <;> rw [h] <;> simp
theorem LtH.irrefl (a : List Int) : ¬ LtH a a := by
  unfold LtH
  rw [cmpH_zero.2 rfl]; omega
theorem LtH.trans {a b c : List Int} (h : LtH a b) (k : LtH b c) : LtH a c := LtH.eq.2 (cmpH_trans (LtH.eq.1 h) (LtH.eq.1 k))
theorem LtH.asymm {a b : List Int} (h : LtH a b) (k : LtH b a) : False := LtH.irrefl a (h.trans k)
theorem LtH.tri (a b : List Int) : LtH a b ∨ a = b ∨ LtH b a := by
  have h := cmpH_swap a b
  unfold LtH
  rcases cmpH_cases a b with h1 | h1 | h1
  · left; omega
  · right; left; exact cmpH_zero.1 h1
  · right; right; omega
theorem LtH.of_not {a b : List Int} (h : ¬ LtH a b) (hne : a ≠ b) : LtH b a := by
  rcases LtH.tri a b with h1 | h1 | h1
  · exact absurd h1 h
  · exact absurd h1 hne
  · exact h1

/-- Rising, each once. -/
def Asc (l : List (List Int)) : Prop := l.Pairwise LtH
theorem Asc.nil : Asc [] := List.Pairwise.nil
theorem Asc.ext : ∀ {l m : List (List Int)}, Asc l → Asc m → (∀ x, x ∈ l ↔ x ∈ m) → l = m
  | [], [], _, _, _ => rfl
  | [], y :: m, _, _, h => by have := (h y).2 (by simp); simp at this
  | x :: l, [], _, _, h => by have := (h x).1 (by simp); simp at this
  | x :: l, y :: m, hl, hm, h => by
    have hl' := List.pairwise_cons.1 hl
    have hm' := List.pairwise_cons.1 hm
    have e : x = y := by
      have h1 := (h x).1 (by simp)
      have h2 := (h y).2 (by simp)
      rcases List.mem_cons.1 h1 with h1 | h1
      · exact h1
      · rcases List.mem_cons.1 h2 with h2 | h2
        · exact h2.symm
        · exact (LtH.asymm (hm'.1 x h1) (hl'.1 y h2)).elim
    subst e
    congr 1
    refine Asc.ext hl'.2 hm'.2 fun z => ?_
    constructor
    · intro hz
      rcases List.mem_cons.1 ((h z).1 (List.mem_cons_of_mem _ hz)) with h1 | h1
      · subst h1; exact (LtH.irrefl z (hl'.1 z hz)).elim
      · exact h1
    · intro hz
      rcases List.mem_cons.1 ((h z).2 (List.mem_cons_of_mem _ hz)) with h1 | h1
      · subst h1; exact (LtH.irrefl z (hm'.1 z hz)).elim
      · exact h1

/-- A list put to its place, once. -/
def putL : List (List Int) → List Int → List (List Int)
  | [], x => [x]
  | y :: l, x => if LtH y x then y :: putL l x else if y = x then y :: l else x :: y :: l
theorem putL_mem : ∀ {l : List (List Int)} {x z : List Int}, z ∈ putL l x ↔ z = x ∨ z ∈ l
  | [], x, z => by simp [putL]
  | y :: l, x, z => by
    unfold putL
    split
    · rw [List.mem_cons, putL_mem, List.mem_cons]
      exact ⟨fun h => by rcases h with h | h | h <;> simp [h], fun h => by rcases h with h | h | h <;> simp [h]⟩
    · split
      · rename_i h; subst h; simp
      · simp
theorem putL_asc : ∀ {l : List (List Int)} {x : List Int}, Asc l → Asc (putL l x)
  | [], x, _ => List.pairwise_singleton _ _
  | y :: l, x, h => by
    have h' := List.pairwise_cons.1 h
    unfold putL
    split
    · rename_i hlt
      refine List.pairwise_cons.2 ⟨fun z hz => ?_, putL_asc h'.2⟩
      rcases putL_mem.1 hz with rfl | hz
      · exact hlt
      · exact h'.1 z hz
    · rename_i hlt
      split
      · exact h
      · rename_i hne
        have hxy := LtH.of_not hlt hne
        refine List.pairwise_cons.2 ⟨fun z hz => ?_, h⟩
        rcases List.mem_cons.1 hz with rfl | hz
        · exact hxy
        · exact hxy.trans (h'.1 z hz)
/-- What the loop of the reference finds: the first place k whose list is not ahead of x. -/
theorem putL_at : ∀ {l : List (List Int)} {x : List Int} {k : Nat}, k ≤ l.length → (∀ i, i < k → LtH (l.getD i []) x) → (k < l.length → ¬ LtH (l.getD k []) x) →
    putL l x = if k < l.length ∧ l.getD k [] = x then l else l.take k ++ x :: l.drop k
  | [], x, k, hk, _, _ => by
    have : k = 0 := by simpa using hk
    subst this; simp [putL]
  | y :: l, x, 0, hk, _, h2 => by
    have hy := h2 (by simp)
    simp at hy
    unfold putL
    rw [if_neg hy]
    by_cases e : y = x
    · simp [e]
    · simp [e]
  | y :: l, x, k + 1, hk, h1, h2 => by
    have hy := h1 0 (by omega)
    simp at hy
    unfold putL
    rw [if_pos hy, putL_at (k := k) (by simpa using hk) (fun i hi => by simpa using h1 (i + 1) (by omega)) (fun hl => by simpa using h2 (by simpa using hl))]
    by_cases e : k < l.length ∧ l.getD k [] = x
    · rw [if_pos e, if_pos (by simpa using e)]
    · rw [if_neg e, if_neg (by simpa using e)]
      simp
/-- A list of lists put to their places, one by one. -/
def putAll (l ms : List (List Int)) : List (List Int) := ms.foldl putL l
theorem putAll_nil (l : List (List Int)) : putAll l [] = l := rfl
theorem putAll_cons (l ms : List (List Int)) (m : List Int) : putAll l (m :: ms) = putAll (putL l m) ms := rfl
theorem putAll_app (l ms ns : List (List Int)) : putAll l (ms ++ ns) = putAll (putAll l ms) ns := List.foldl_append
theorem putAll_snoc (l ms : List (List Int)) (m : List Int) : putAll l (ms ++ [m]) = putL (putAll l ms) m := by rw [putAll_app]; rfl
theorem putAll_mem : ∀ {ms l : List (List Int)} {z : List Int}, z ∈ putAll l ms ↔ z ∈ l ∨ z ∈ ms
  | [], l, z => by simp [putAll_nil]
  | m :: ms, l, z => by
    rw [putAll_cons, putAll_mem, putL_mem, List.mem_cons]
    exact ⟨fun h => by rcases h with (h | h) | h <;> simp [h], fun h => by rcases h with h | h | h <;> simp [h]⟩
theorem putAll_asc : ∀ {ms l : List (List Int)}, Asc l → Asc (putAll l ms)
  | [], l, h => h
  | m :: ms, l, h => by rw [putAll_cons]; exact putAll_asc (putL_asc h)
theorem putL_len : ∀ (l : List (List Int)) (x : List Int), (putL l x).length ≤ l.length + 1
  | [], x => by simp [putL]
  | y :: l, x => by
    unfold putL
    have := putL_len l x
    split
    · simp; omega
    · split <;> simp
theorem putAll_len : ∀ (ms l : List (List Int)), (putAll l ms).length ≤ l.length + ms.length
  | [], l => by simp [putAll_nil]
  | m :: ms, l => by
    rw [putAll_cons]
    have h1 := putAll_len ms (putL l m)
    have h2 := putL_len l m
    simp; omega

/-- Not falling. -/
def Ris (l : List (List Int)) : Prop := l.Pairwise fun a b => ¬ LtH b a
/-- What stands once behind p, of a list whose equals stand together. -/
def cptF (p : List Int) : List (List Int) → List (List Int)
  | [] => []
  | y :: l => if y = p then cptF y l else y :: cptF y l
def cpt : List (List Int) → List (List Int)
  | [] => []
  | x :: l => x :: cptF x l
theorem cptF_mem : ∀ {l : List (List Int)} {p z : List Int}, (z = p ∨ z ∈ cptF p l) ↔ (z = p ∨ z ∈ l)
  | [], p, z => by simp [cptF]
  | y :: l, p, z => by
    have ih := cptF_mem (l := l) (p := y) (z := z)
    unfold cptF
    split
    · rename_i h; subst h
      rw [ih, List.mem_cons]
      exact ⟨fun h => by rcases h with h | h <;> simp [h], fun h => by rcases h with h | h | h <;> simp [h]⟩
    · rw [List.mem_cons, List.mem_cons, ih]
theorem cpt_mem {l : List (List Int)} {z : List Int} : z ∈ cpt l ↔ z ∈ l := by
  cases l with
  | nil => simp [cpt]
  | cons x l => simp only [cpt, List.mem_cons]; exact cptF_mem
theorem cptF_asc : ∀ {l : List (List Int)} {p : List Int}, Ris (p :: l) → Asc (p :: cptF p l)
  | [], p, _ => List.pairwise_singleton _ _
  | y :: l, p, h => by
    have h' := List.pairwise_cons.1 h
    have h'' := List.pairwise_cons.1 h'.2
    have ih := cptF_asc (l := l) (p := y) h'.2
    unfold cptF
    split
    · rename_i e; subst e; exact ih
    · rename_i e
      have hpy : LtH p y := LtH.of_not (h'.1 y (by simp)) e
      refine List.pairwise_cons.2 ⟨fun z hz => ?_, ih⟩
      rcases List.mem_cons.1 hz with rfl | hz
      · exact hpy
      · exact hpy.trans ((List.pairwise_cons.1 ih).1 z hz)
theorem cpt_asc {l : List (List Int)} (h : Ris l) : Asc (cpt l) := by
  cases l with
  | nil => exact Asc.nil
  | cons x l => exact cptF_asc h
theorem cptF_app : ∀ (l m : List (List Int)) (p : List Int), cptF p (l ++ m) = cptF p l ++ cptF (l.getLastD p) m
  | [], m, p => by simp [cptF]
  | y :: l, m, p => by
    have ih := cptF_app l m y
    rw [List.cons_append]
    simp only [cptF]
    split
    · rw [ih]; cases l <;> rfl
    · rw [ih, List.cons_append]; cases l <;> rfl
theorem cptF_len : ∀ (l : List (List Int)) (p : List Int), (cptF p l).length ≤ l.length
  | [], p => by simp [cptF]
  | y :: l, p => by
    have := cptF_len l y
    simp only [cptF]
    split <;> simp <;> omega
theorem cpt_len (l : List (List Int)) : (cpt l).length ≤ l.length := by
  cases l with
  | nil => simp [cpt]
  | cons x l => have := cptF_len l x; simp [cpt]; omega
/-- Sorted and compacted: what putting one by one makes. -/
theorem cpt_putAll {l ms : List (List Int)} (h : Ris l) (hp : ∀ x, x ∈ l ↔ x ∈ ms) : cpt l = putAll [] ms :=
  Asc.ext (cpt_asc h) (putAll_asc Asc.nil) fun x => by rw [cpt_mem, hp x, putAll_mem]; simp
end Go.Proofs.Ytoeacocijcammaa
