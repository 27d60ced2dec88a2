/- Seals: what is sealed is opened again; a byte that was changed is told. Plain. -/
import Derived.Test.YtppaplgeecojgaaDoorNtI
namespace Go.Proofs.YtppaplgeecojgaaDoor

def sealL (X : List UInt8) : List UInt8 := X ++ 35 :: Lib.itoa (sumFrom 5 X)
theorem sealB_list (x : ByteArray) : (sealB x).data.toList = sealL x.data.toList := by
  unfold sealB sealL
  rw [ByteArray.data_append, ByteArray.data_append, Array.toList_append, Array.toList_append, numB_list]
  simp
theorem idx_sealL {X : List UInt8} (h : (35 : UInt8) ∉ X) : Lib.indexByte (sealL X) 35 = X.length := by
  have hge := Lib.indexByte_ge (sealL X) 35
  have hat : (sealL X)[X.length]? = some 35 := by unfold sealL; simp
  by_cases h1 : Lib.indexByte (sealL X) 35 < 0
  · exact absurd hat (Lib.indexByte_none (by omega) X.length)
  · obtain ⟨o, ho⟩ := Int.eq_ofNat_of_zero_le (show 0 ≤ Lib.indexByte (sealL X) 35 by omega)
    obtain ⟨h2, h3⟩ := Lib.indexByte_some ho
    have h4 : ¬ X.length < o := fun h5 => h3 X.length h5 hat
    have h5 : ¬ o < X.length := fun h6 => by
      unfold sealL at h2
      rw [List.getElem?_append_left h6] at h2
      exact h (List.mem_of_getElem? h2)
    omega
theorem head_seal {x : ByteArray} (h : stB x 35 = false) : headB (sealB x) = x := by
  have h1 : (35 : UInt8) ∉ x.data.toList := of_decide_eq_false h
  have hi : Lib.indexByte (sealB x).data.toList 35 = x.data.toList.length := by rw [sealB_list]; exact idx_sealL h1
  unfold headB
  rw [hi, if_neg (by omega)]
  apply ByteArray.ext
  apply Array.ext'
  rw [ByteArray.data_extract, Array.toList_extract, sealB_list]
  unfold sealL
  simp
theorem open_seal {x y : ByteArray} (h : sealT x = (y, true)) : y = sealB x ∧ stB x 35 = false ∧ x.size ≤ 4000 ∧ y.size ≤ 4000 ∧ openT y = (x, true) := by
  unfold sealT at h
  split at h
  · rename_i k
    injection h with e
    subst e
    refine ⟨rfl, k.2.1, k.1, k.2.2, ?_⟩
    have hh := head_seal k.2.1
    rw [openT_yes k.2.2 (by rw [hh]), hh]
  · injection h with _ e
    cases e
/-- A step of the sum keeps numbers apart. -/
theorem step_ne {h h' : Int} (c : Int) (h0 : 0 ≤ h) (h1 : h < 999983) (k0 : 0 ≤ h') (k1 : h' < 999983) (hne : h ≠ h') : (37 * h + c + 1) % 999983 ≠ (37 * h' + c + 1) % 999983 := by
  intro e
  have e1 : (37 * (h - h')) % 999983 = 0 := by omega
  obtain ⟨q, hq⟩ : ∃ q, 37 * (h - h') = 999983 * q := ⟨37 * (h - h') / 999983, by omega⟩
  have e2 : h - h' = 999983 * (189186 * q - 7 * (h - h')) := by omega
  omega
theorem sum_apart : ∀ (l : List UInt8) (h h' : Int), 0 ≤ h → h < 999983 → 0 ≤ h' → h' < 999983 → h ≠ h' → sumFrom h l ≠ sumFrom h' l
  | [], h, h', _, _, _, _, hne => hne
  | c :: r, h, h', h0, h1, k0, k1, hne => by
    simp only [sumFrom]
    exact sum_apart r _ _ (Int.emod_nonneg _ (by decide)) (Int.emod_lt_of_pos _ (by decide)) (Int.emod_nonneg _ (by decide)) (Int.emod_lt_of_pos _ (by decide)) (step_ne _ h0 h1 k0 k1 hne)
theorem byte_ne (h : Int) {c c' : Int} (h0 : 0 ≤ c) (h1 : c < 256) (k0 : 0 ≤ c') (k1 : c' < 256) (hne : ¬ c = c') : (37 * h + c + 1) % 999983 ≠ (37 * h + c' + 1) % 999983 := by omega
theorem sum_set (v : UInt8) (l : List UInt8) : ∀ (h : Int) (k : Nat), 0 ≤ h → h < 999983 → (hk : k < l.length) → l[k] ≠ v → sumFrom h (l.set k v) ≠ sumFrom h l := by
  induction l with
  | nil => intro h k _ _ hk _; simp at hk
  | cons c r ih =>
    intro h k h0 h1 hk hv
    rcases k with _ | k
    · have hv : c ≠ v := hv
      have a := c.toNat_lt
      have b := v.toNat_lt
      have hcv : ¬ (v.toNat : Int) = (c.toNat : Int) := fun e => hv (UInt8.toNat_inj.1 (by omega))
      show sumFrom ((37 * h + (v.toNat : Int) + 1) % 999983) r ≠ sumFrom ((37 * h + (c.toNat : Int) + 1) % 999983) r
      exact sum_apart r _ _ (Int.emod_nonneg _ (by decide)) (Int.emod_lt_of_pos _ (by decide)) (Int.emod_nonneg _ (by decide)) (Int.emod_lt_of_pos _ (by decide)) (byte_ne h (by omega) (by omega) (by omega) (by omega) hcv)
    · show sumFrom ((37 * h + (c.toNat : Int) + 1) % 999983) (r.set k v) ≠ sumFrom ((37 * h + (c.toNat : Int) + 1) % 999983) r
      exact ih _ k (Int.emod_nonneg _ (by decide)) (Int.emod_lt_of_pos _ (by decide)) (by simpa using hk) hv
theorem itoa_inj {a b : Int} (h : Lib.itoa a = Lib.itoa b) : a = b := by
  have h1 := atoi_itoa a
  rw [h, atoi_itoa b] at h1
  exact (Option.some.inj h1).symm
/-- A byte that was changed is told: the text is then none, or of another length. -/
theorem bent_list {X B : List UInt8} {k : Nat} {v : UInt8} (hk : k < (sealL X).length) (hv : (sealL X)[k] ≠ v) (h : sealL B = (sealL X).set k v) : B.length ≠ X.length := by
  intro hl
  unfold sealL at h hk
  have hkl : k < X.length + 1 + (Lib.itoa (sumFrom 5 X)).length := by simpa [Nat.add_assoc, Nat.add_comm 1] using hk
  rcases Nat.lt_trichotomy k X.length with h1 | h1 | h1
  · rw [List.set_append_left _ _ h1] at h
    have h2 := List.append_inj h (by simpa using hl)
    obtain ⟨e1, e2⟩ := h2
    injection e2 with _ e2
    have e3 := itoa_inj e2
    have hv' : X[k] ≠ v := by
      intro e
      apply hv
      unfold sealL
      rw [List.getElem_append_left h1]
      exact e
    rw [e1] at e3
    exact sum_set v X 5 k (by omega) (by omega) h1 hv' e3
  · subst h1
    rw [List.set_append_right _ _ (Nat.le_refl _), Nat.sub_self, List.set_cons_zero] at h
    have h2 := List.append_inj h hl
    obtain ⟨e1, e2⟩ := h2
    injection e2 with e2 _
    apply hv
    unfold sealL
    rw [List.getElem_append_right (Nat.le_refl _)]
    simpa using e2
  · rw [List.set_append_right _ _ (by omega)] at h
    have h2 := List.append_inj h hl
    obtain ⟨e1, e2⟩ := h2
    subst e1
    have h3 : (sealL B).set k v = sealL B := by
      unfold sealL
      rw [List.set_append_right _ _ (by omega), ← e2]
    have h4 : ((sealL B).set k v)[k]? = some v := by
      rw [List.getElem?_set_self (by unfold sealL; exact hk)]
    rw [h3] at h4
    rw [List.getElem?_eq_getElem (by unfold sealL; exact hk)] at h4
    exact hv (Option.some.inj h4)
theorem bent {x o b : ByteArray} {k : Nat} {v : UInt8} (hk : k < (sealL x.data.toList).length) (hv : (sealL x.data.toList)[k] ≠ v) (ho : o.data.toList = (sealL x.data.toList).set k v) (h : openT o = (b, true)) : b.size ≠ x.size := by
  unfold openT at h
  split at h
  · rename_i hh
    injection h with e
    have h1 : sealL b.data.toList = (sealL x.data.toList).set k v := by rw [← sealB_list, ← ho, ← e, hh.2]
    have := bent_list hk hv h1
    simpa using this
  · injection h with _ e
    cases e
end Go.Proofs.YtppaplgeecojgaaDoor
