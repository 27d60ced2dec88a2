/- Reading a dyadic number's text: the plain law. -/
import Derived.Test.YtaifelcocnnkjaaDoorNtH
import Derived.Lib.IndexLaws
namespace Go.Proofs.YtaifelcocnnkjaaDoor
open Go.RowKit

/-- The text s is that of a good number. -/
def IsDy (s : ByteArray) (t p : Int) : Prop := gd t p = true ∧ dyB t p = s
/-- What a reading of s may give. -/
def ReadOk (s : ByteArray) (t p : Int) (ok : Bool) : Prop := (ok = true ∧ IsDy s t p) ∨ (ok = false ∧ t = 0 ∧ p = 0 ∧ ∀ t' p', ¬ IsDy s t' p')
theorem dec_no47 (u : Nat) : ∀ b ∈ Lib.decDigits u, b ≠ 47 := by
  intro b hb
  obtain ⟨k, hk, rfl⟩ := List.getElem_of_mem hb
  obtain ⟨d, hd⟩ := Lib.digit_of_decFrom _ 0 u (dec_digits u) k _ (List.getElem?_eq_getElem hk)
  obtain ⟨h1, h2, _⟩ := Lib.digitVal_eq hd
  intro e
  rw [e] at h1
  revert h1
  decide
theorem itoa_no47 (n : Int) : ∀ b ∈ Lib.itoa n, b ≠ 47 := by
  intro b hb
  unfold Lib.itoa at hb
  split at hb
  · rcases List.mem_cons.1 hb with rfl | h
    · decide
    · exact dec_no47 _ b h
  · exact dec_no47 _ b hb
theorem dyB_list0 (t : Int) : (dyB t 0).data.toList = Lib.itoa t := by unfold dyB; rw [if_pos rfl, numB_list]
theorem dyB_list1 {t p : Int} (h : ¬ p = 0) : (dyB t p).data.toList = Lib.itoa t ++ 47 :: Lib.itoa (2 ^ p.toNat) := by
  unfold dyB
  rw [if_neg h]
  simp [ByteArray.data_append, numB_list]
theorem index_app : ∀ (L M : List UInt8), (∀ b ∈ L, b ≠ 47) → Lib.indexByte (L ++ 47 :: M) 47 = L.length
  | [], M, _ => by simp [Lib.indexByte]
  | a :: L, M, h => by
    have h1 : (a == 47) = false := beq_eq_false_iff_ne.2 (h a (List.mem_cons_self ..))
    have h2 := index_app L M (fun b hb => h b (List.mem_cons_of_mem _ hb))
    have h3 : ((L.length : Int) == -1) = false := by rw [beq_eq_false_iff_ne]; omega
    simp only [List.cons_append, Lib.indexByte, h1, h2, h3, Bool.false_eq_true, if_false, List.length_cons]
    omega
theorem index_no : ∀ (L : List UInt8), (∀ b ∈ L, b ≠ 47) → Lib.indexByte L 47 = -1
  | [], _ => rfl
  | a :: L, h => by
    have h1 : (a == 47) = false := beq_eq_false_iff_ne.2 (h a (List.mem_cons_self ..))
    have h2 := index_no L (fun b hb => h b (List.mem_cons_of_mem _ hb))
    simp [Lib.indexByte, h1, h2]
theorem ext_take (s : ByteArray) (i : Nat) : (s.extract 0 i).data.toList = s.data.toList.take i := by simp
theorem ext_drop (s : ByteArray) (i : Nat) : (s.extract i s.size).data.toList = s.data.toList.drop i := by
  simp; exact List.take_of_length_le (by simp)
theorem itoa_len {n : Int} (h0 : -9999999 ≤ n) (h1 : n ≤ 9999999) : (Lib.itoa n).length ≤ 8 ∧ (Lib.decDigits n.natAbs).length ≤ 7 := by
  have h := digB_len 6 n.natAbs (by omega)
  have h2 := congrArg ByteArray.size (digB_itoa n.natAbs)
  rw [strOfNums_size] at h2
  have h3 : (⟨(Lib.decDigits n.natAbs).toArray⟩ : ByteArray).size = (Lib.decDigits n.natAbs).length := by
    show (Lib.decDigits n.natAbs).toArray.size = _
    simp
  refine ⟨?_, by omega⟩
  unfold Lib.itoa
  split
  · rw [List.length_cons]; omega
  · rw [show n.toNat = n.natAbs by omega]; omega
theorem atoiAll_itoa {n : Int} (h0 : -9999999 ≤ n) (h1 : n ≤ 9999999) : Lib.atoiAll (Lib.itoa n) = .ok n := by
  rw [Lib.atoiAll_short _ (by have := (itoa_len h0 h1).1; omega), atoi_itoa]; rfl
theorem ext_eq {s : ByteArray} {L : List UInt8} (h : s.data.toList = L) : (⟨L.toArray⟩ : ByteArray) = s := by
  subst h
  simp
theorem isdy_rng {s : ByteArray} {t p : Int} (h : IsDy s t p) : -1000000 ≤ t ∧ t ≤ 1000000 ∧ 0 ≤ p ∧ p ≤ 16 := gd_rng h.1
theorem isdy_list0 {s : ByteArray} {t : Int} (h : IsDy s t 0) : s.data.toList = Lib.itoa t := by rw [← h.2, dyB_list0]
theorem isdy_list1 {s : ByteArray} {t p : Int} (h : IsDy s t p) (hp : ¬ p = 0) : s.data.toList = Lib.itoa t ++ 47 :: Lib.itoa (2 ^ p.toNat) := by rw [← h.2, dyB_list1 hp]
/-- No sign: a whole number. -/
theorem isdy_whole {s : ByteArray} {t p : Int} (hi : Lib.indexByte s.data.toList 47 = -1) (h : IsDy s t p) : p = 0 ∧ Lib.atoiAll s.data.toList = .ok t := by
  have hr := isdy_rng h
  by_cases hp : p = 0
  · subst hp
    exact ⟨rfl, by rw [isdy_list0 h, atoiAll_itoa (by omega) (by omega)]⟩
  · rw [isdy_list1 h hp, index_app _ _ (itoa_no47 t)] at hi
    omega
theorem pw_rng {p : Int} (hp : p ≤ 16) : -9999999 ≤ (2 : Int) ^ p.toNat ∧ (2 : Int) ^ p.toNat ≤ 9999999 := by
  have := pw_bd hp
  omega
theorem isdy_split {s : ByteArray} {t p : Int} {i : Nat} (hi : Lib.indexByte s.data.toList 47 = i) (h : IsDy s t p) :
    ¬ p = 0 ∧ (s.extract 0 i).data.toList = Lib.itoa t ∧ (s.extract (i + 1) s.size).data.toList = Lib.itoa (2 ^ p.toNat) := by
  by_cases hp : p = 0
  · subst hp
    rw [isdy_list0 h, index_no _ (itoa_no47 t)] at hi
    omega
  · have hl := isdy_list1 h hp
    rw [hl, index_app _ _ (itoa_no47 t)] at hi
    have hi : (Lib.itoa t).length = i := by omega
    refine ⟨hp, ?_, ?_⟩
    · rw [ext_take, hl, ← hi]; simp
    · rw [ext_drop, hl, ← hi]; simp
theorem isdy_split_atoi {s : ByteArray} {t p : Int} {i : Nat} (hi : Lib.indexByte s.data.toList 47 = i) (h : IsDy s t p) :
    Lib.atoiAll (s.extract 0 i).data.toList = .ok t ∧ Lib.atoiAll (s.extract (i + 1) s.size).data.toList = .ok (2 ^ p.toNat) := by
  obtain ⟨_, h1, h2⟩ := isdy_split hi h
  have hr := isdy_rng h
  have hb := pw_rng hr.2.2.2
  rw [h1, h2, atoiAll_itoa (by omega) (by omega), atoiAll_itoa hb.1 hb.2]
  exact ⟨rfl, rfl⟩
theorem pow_lt {a b : Nat} (h : a < b) : (2 : Int) ^ a < 2 ^ b := by
  have h1 : (2 : Nat) ^ a < 2 ^ b := Nat.pow_lt_pow_right (by omega) h
  have e : ∀ n : Nat, (2 : Int) ^ n = ((2 ^ n : Nat) : Int) := fun n => by simp
  rw [e, e]
  omega
/-- The program's loop stops at the power. -/
theorem loop_fin {p k : Nat} {b : Int} (hb : b = 2 ^ p) (hp : p ≤ 16) (hk : k ≤ 16) (hall : ∀ j, j < k → (2 : Int) ^ j < b) (hend : k = 16 ∨ b ≤ 2 ^ k) : k = p := by
  rcases Nat.lt_trichotomy k p with h | h | h
  · have := pow_lt h
    omega
  · exact h
  · have := hall p h
    omega
theorem read_yes {s : ByteArray} {v k : Int} (hg : gd v k = true) (he : dyB v k = s) : ReadOk s v k true := Or.inl ⟨rfl, hg, he⟩
theorem read_bad {s : ByteArray} {v k : Int} (hu : ∀ t p, IsDy s t p → t = v ∧ p = k) (hg : gd v k = false) : ReadOk s 0 0 false :=
  Or.inr ⟨rfl, rfl, rfl, fun t p h => by obtain ⟨rfl, rfl⟩ := hu t p h; have := h.1; rw [hg] at this; cases this⟩
theorem read_other {s : ByteArray} {v k : Int} (hu : ∀ t p, IsDy s t p → t = v ∧ p = k) (he : ¬ dyB v k = s) : ReadOk s 0 0 false :=
  Or.inr ⟨rfl, rfl, rfl, fun t p h => by obtain ⟨rfl, rfl⟩ := hu t p h; exact he h.2⟩
theorem read_no {s : ByteArray} (h : ∀ t p, ¬ IsDy s t p) : ReadOk s 0 0 false := Or.inr ⟨rfl, rfl, rfl, h⟩
/-- One text, one number. -/
theorem isdy_one {s : ByteArray} {t p t' p' : Int} (h : IsDy s t p) (h' : IsDy s t' p') : t = t' ∧ p = p' := by
  have hr := isdy_rng h
  have hr' := isdy_rng h'
  by_cases hi : Lib.indexByte s.data.toList 47 = -1
  · obtain ⟨e1, a1⟩ := isdy_whole hi h
    obtain ⟨e2, a2⟩ := isdy_whole hi h'
    rw [a1] at a2
    injection a2 with a2
    exact ⟨a2, by rw [e1, e2]⟩
  · obtain ⟨i, hi⟩ : ∃ i : Nat, Lib.indexByte s.data.toList 47 = i := by
      have := Lib.indexByte_ge s.data.toList 47
      exact Int.eq_ofNat_of_zero_le (by omega)
    obtain ⟨a1, b1⟩ := isdy_split_atoi hi h
    obtain ⟨a2, b2⟩ := isdy_split_atoi hi h'
    rw [a1] at a2
    rw [b1] at b2
    injection a2 with a2
    injection b2 with b2
    refine ⟨a2, ?_⟩
    rcases Nat.lt_trichotomy p.toNat p'.toNat with h | h | h
    · have := pow_lt h; omega
    · omega
    · have := pow_lt h; omega
theorem ReadOk.same {s : ByteArray} {t p t' p' : Int} {ok ok' : Bool} (h : ReadOk s t p ok) (h' : ReadOk s t' p' ok') : t = t' ∧ p = p' ∧ ok = ok' := by
  rcases h with ⟨rfl, h⟩ | ⟨rfl, rfl, rfl, h⟩ <;> rcases h' with ⟨rfl, h'⟩ | ⟨rfl, rfl, rfl, h'⟩
  · exact ⟨(isdy_one h h').1, (isdy_one h h').2, rfl⟩
  · exact absurd h (h' _ _)
  · exact absurd h' (h _ _)
  · exact ⟨rfl, rfl, rfl⟩
/-- The reference's digits: up to nine. -/
def dig9 (L : List UInt8) : Int := match Lib.decFrom 0 (L.take 9) with
  | some m => (m : Int)
  | none => -1
theorem dig9_bd (L : List UInt8) : -1 ≤ dig9 L ∧ dig9 L < 1000000000 := by
  unfold dig9
  split
  · rename_i m h
    have h1 := Lib.decFrom_lt _ _ _ h
    have h2 : (L.take 9).length ≤ 9 := by rw [List.length_take]; omega
    have h3 : 10 ^ (L.take 9).length ≤ 10 ^ 9 := Nat.pow_le_pow_right (by omega) h2
    omega
  · omega
theorem dig9_dec {u : Nat} (h : (Lib.decDigits u).length ≤ 7) : dig9 (Lib.decDigits u) = u := by
  unfold dig9
  rw [List.take_of_length_le (by omega), dec_digits]
/-- The reference's top. -/
def topS (L : List UInt8) : Int := if L.head? = some 45 then -(dig9 L.tail) else dig9 L
theorem topS_itoa {n : Int} (h0 : -9999999 ≤ n) (h1 : n ≤ 9999999) : topS (Lib.itoa n) = n := by
  have hl := (itoa_len h0 h1).2
  unfold Lib.itoa
  split
  · unfold topS
    simp only [List.head?_cons, if_true, List.tail_cons, dig9_dec hl]
    omega
  · have e : n.toNat = n.natAbs := by omega
    rw [e]
    obtain ⟨b, r, h, hb, _⟩ := decDigits_cons n.natAbs
    have hd := dig9_dec hl
    rw [h] at hd ⊢
    unfold topS
    rw [if_neg (by simpa using hb), hd]
    omega
theorem parts_no47 {s : ByteArray} : ∀ k, k ≤ s.size → (∀ j (h : j < s.size), j < k → s[j] ≠ 47) → partsTo s 47 k = ([], 0)
  | 0, _, _ => rfl
  | k + 1, hk, h => by
    rw [parts_no (by omega) (h k (by omega) (by omega))]
    exact parts_no47 k (by omega) (fun j hj hjk => h j hj (by omega))
theorem byte_at {s : ByteArray} {k : Nat} (h : k < s.size) (b : UInt8) (hb : s.data.toList[k]? = some b) : s[k] = b := by
  rw [getT h] at hb
  exact Option.some.inj hb
theorem split_whole {s : ByteArray} {t : Int} (h : IsDy s t 0) : splitL s 47 = [s] := by
  have hl := isdy_list0 h
  have : partsTo s 47 s.size = ([], 0) := parts_no47 _ (Nat.le_refl _) (fun j hj _ e => by
    have h1 := getT hj
    rw [e, hl] at h1
    exact itoa_no47 t 47 (List.mem_of_getElem? h1) rfl)
  rw [splitL_eq this]
  simp
theorem parts_more {s : ByteArray} {i : Nat} (hi : i < s.size) (e : s[i] = 47) (h0 : ∀ j (h : j < s.size), j ≠ i → s[j] ≠ 47) : ∀ d, i + 1 + d ≤ s.size → partsTo s 47 (i + 1 + d) = ([s.extract 0 i], i + 1)
  | 0, _ => by
    have := parts_yes hi e (parts_no47 i (by omega) (fun j hj hji => h0 j hj (by omega)))
    simpa using this
  | d + 1, hd => by
    rw [show i + 1 + (d + 1) = i + 1 + d + 1 by omega, parts_no (by omega) (h0 (i + 1 + d) (by omega) (by omega))]
    exact parts_more hi e h0 d (by omega)
theorem split_two {s : ByteArray} {t p : Int} (h : IsDy s t p) (hp : ¬ p = 0) : splitL s 47 = [strOfNums (numB t), strOfNums (numB (2 ^ p.toNat))] := by
  have hl := isdy_list1 h hp
  have hs : s.size = (Lib.itoa t).length + 1 + (Lib.itoa (2 ^ p.toNat)).length := by
    have := congrArg List.length hl
    rw [List.length_append, List.length_cons] at this
    have e : s.data.toList.length = s.size := by simp
    omega
  have hi : (Lib.itoa t).length < s.size := by omega
  have e47 : s[(Lib.itoa t).length] = 47 := byte_at hi 47 (by rw [hl]; simp)
  have hne : ∀ j (hj : j < s.size), j ≠ (Lib.itoa t).length → s[j] ≠ 47 := fun j hj hji e => by
    have h1 := getT hj
    rw [e, hl] at h1
    rcases Nat.lt_or_gt_of_ne hji with hlt | hgt
    · rw [List.getElem?_append_left hlt] at h1
      exact itoa_no47 t 47 (List.mem_of_getElem? h1) rfl
    · rw [List.getElem?_append_right (by omega), List.getElem?_cons, if_neg (by omega)] at h1
      exact itoa_no47 _ 47 (List.mem_of_getElem? h1) rfl
  have hpt := parts_more hi e47 hne (Lib.itoa (2 ^ p.toNat)).length (by omega)
  rw [← hs] at hpt
  rw [splitL_eq hpt]
  have a1 : s.extract 0 (Lib.itoa t).length = strOfNums (numB t) := by
    rw [numB_itoa, ← ext_eq (ext_take s _), hl]; simp
  have a2 : s.extract ((Lib.itoa t).length + 1) s.size = strOfNums (numB (2 ^ p.toNat)) := by
    rw [numB_itoa, ← ext_eq (ext_drop s _), hl]; simp
  rw [a1, a2]
  rfl
/-- The reference's loop stops at the power. -/
theorem loopS_fin {p k : Nat} {w1 : ByteArray} (hb : w1 = strOfNums (numB (2 ^ p))) (hp : p ≤ 16) (hk : k ≤ 16) (hall : ∀ j, j < k → ¬ strOfNums (numB (2 ^ j)) = w1) (hend : k = 16 ∨ strOfNums (numB (2 ^ k)) = w1) : k = p := by
  rcases Nat.lt_trichotomy k p with h | h | h
  · rcases hend with rfl | he
    · omega
    · rw [hb] at he
      have h1 := congrArg (fun s : ByteArray => Lib.atoi s.data.toList) he
      simp only [numB_list, atoi_itoa, Option.some.injEq] at h1
      have := pow_lt h
      omega
  · exact h
  · exact absurd hb.symm (hall p h)
theorem splitL_ne (s : ByteArray) (b : UInt8) : ∃ h r, splitL s b = h :: r := by
  rw [splitL]
  cases (partsTo s b s.size).1 with
  | nil => exact ⟨_, _, rfl⟩
  | cons a l => exact ⟨_, _, rfl⟩
theorem spec_one {s hd : ByteArray} (hs : splitL s 47 = [hd]) {t p : Int} (h : IsDy s t p) : t = topS hd.data.toList ∧ p = 0 := by
  have hr := isdy_rng h
  by_cases hp : p = 0
  · subst hp
    rw [split_whole h] at hs
    injection hs with hs
    subst hs
    exact ⟨by rw [isdy_list0 h, topS_itoa (by omega) (by omega)], rfl⟩
  · rw [split_two h hp] at hs
    cases hs
theorem spec_two {s hd w1 : ByteArray} {r : List ByteArray} (hs : splitL s 47 = hd :: w1 :: r) {k : Nat} (hk : k ≤ 16) (hall : ∀ j, j < k → ¬ strOfNums (numB (2 ^ j)) = w1) (hend : k = 16 ∨ strOfNums (numB (2 ^ k)) = w1) {t p : Int} (h : IsDy s t p) : t = topS hd.data.toList ∧ p = k := by
  have hr := isdy_rng h
  by_cases hp : p = 0
  · subst hp
    rw [split_whole h] at hs
    cases hs
  · rw [split_two h hp] at hs
    injection hs with h1 h2
    injection h2 with h2 h3
    subst h1
    refine ⟨by rw [numB_list, topS_itoa (by omega) (by omega)], ?_⟩
    have := loopS_fin h2.symm (by omega) hk hall hend
    omega
end Go.Proofs.YtaifelcocnnkjaaDoor
