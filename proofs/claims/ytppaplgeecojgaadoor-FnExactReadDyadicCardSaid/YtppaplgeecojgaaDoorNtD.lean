/- Opening a sealed text, by the program and by the reference; the walk of the law on OpenText. -/
import Derived.Test.YtppaplgeecojgaaDoorNtC
namespace Go.Proofs.YtppaplgeecojgaaDoor
open Go.RowKit

/-- What stands ahead of the first '#'; all of it, where there is none. -/
def headB (s : ByteArray) : ByteArray := if Lib.indexByte s.data.toList 35 < 0 then s else s.extract 0 (Lib.indexByte s.data.toList 35).toNat
theorem extract_all (s : ByteArray) : s.extract 0 s.size = s := by
  apply ByteArray.ext
  simp
theorem parts_none {s : ByteArray} {b : UInt8} : ∀ {k : Nat}, k ≤ s.size → (∀ j, j < k → s.data.toList[j]? ≠ some b) → partsTo s b k = ([], 0)
  | 0, _, _ => rfl
  | k + 1, hk, h => by
    have h1 := h k (by omega)
    have hk' : k < s.data.toList.length := by
      have e : s.data.toList.length = s.size := by simp
      omega
    rw [partsTo, if_neg, parts_none (by omega) (fun j hj => h j (by omega))]
    rw [List.getD_eq_getElem?_getD, List.getElem?_eq_getElem hk']
    rw [List.getElem?_eq_getElem hk'] at h1
    simpa using h1
theorem parts_head {s : ByteArray} {b : UInt8} {o : Nat} (ho : s.data.toList[o]? = some b) (hb : ∀ j, j < o → s.data.toList[j]? ≠ some b) (hos : o < s.size) :
    ∀ k, ∃ rest, (partsTo s b (o + 1 + k)).1 = s.extract 0 o :: rest
  | 0 => ⟨[], by
    rw [Nat.add_zero, partsTo, if_pos, parts_none (by omega) hb]
    · rfl
    · rw [List.getD_eq_getElem?_getD, ho]; rfl⟩
  | k + 1 => by
    obtain ⟨rest, h⟩ := parts_head ho hb hos k
    rw [← Nat.add_assoc, partsTo]
    split
    · exact ⟨rest ++ _, by rw [h]; rfl⟩
    · exact ⟨rest, h⟩
theorem idx_lt {s : ByteArray} {o : Nat} {b : UInt8} (h : s.data.toList[o]? = some b) : o < s.size := by
  have := (List.getElem?_eq_some_iff.1 h).1
  simpa using this
theorem str_ne {a b : ByteArray} (h : ¬ a = b) : (a.toList == b.toList) = false := by
  rw [beq_eq_false_iff_ne, ByteArray.toList_eq, ByteArray.toList_eq]
  intro e
  exact h (ByteArray.ext (Array.toList_inj.1 e))
theorem head_eq (s : ByteArray) : (splitL s 35).getD 0 ByteArray.empty = headB s := by
  have hge := Lib.indexByte_ge s.data.toList 35
  by_cases h : Lib.indexByte s.data.toList 35 < 0
  · have h1 : Lib.indexByte s.data.toList 35 = -1 := by omega
    rw [headB, if_pos h, splitL, parts_none (Nat.le_refl _) (fun j _ => Lib.indexByte_none h1 j)]
    exact extract_all s
  · obtain ⟨o, ho⟩ := Int.eq_ofNat_of_zero_le (show 0 ≤ Lib.indexByte s.data.toList 35 by omega)
    obtain ⟨h1, h2⟩ := Lib.indexByte_some ho
    have hlt := idx_lt h1
    obtain ⟨rest, hr⟩ := parts_head h1 h2 hlt (s.size - (o + 1))
    rw [show o + 1 + (s.size - (o + 1)) = s.size by omega] at hr
    rw [headB, if_neg h, splitL, hr, ho]
    rfl
theorem head_size (s : ByteArray) : (headB s).size ≤ s.size := by
  unfold headB
  split
  · exact Nat.le_refl _
  · simp [ByteArray.size_extract]; omega
theorem splitL_pos (s : ByteArray) (b : UInt8) : 0 < (splitL s b).length := by rw [splitL, List.length_append]; simp
def openT (s : ByteArray) : ByteArray × Bool := if s.size ≤ 4000 ∧ sealB (headB s) = s then (headB s, true) else (ByteArray.empty, false)
theorem openT_no {s : ByteArray} (h : ¬ (s.size ≤ 4000 ∧ sealB (headB s) = s)) : openT s = (ByteArray.empty, false) := if_neg h
theorem openT_yes {s : ByteArray} (h : s.size ≤ 4000) (h2 : sealB (headB s) = s) : openT s = (headB s, true) := if_pos ⟨h, h2⟩
set_option maxHeartbeats 800000 in
theorem s_OpenText (s : ByteArray) (w : World) (hs : s.size ≤ 1048576) :
    Calls Tryd.prog 14 #[.string s] w fun e w' => e = .returned (tv (openT s)) ∧ Below w.heap.size w w' := by
  by_cases h4 : s.size ≤ 4000
  · have h41 : ¬ (4000 : Int) < (s.size : Int) := by omega
    have HP : ∀ w, Calls Tryd.prog 36 #[.string s, .int .u8 35] w (StrsP w (splitL s 35)) := fun w => s_l1Split s 35 w (by omega)
    have HS := Lib.hid (fun w => s_l1Seal (headB s) w (by have := head_size s; omega))
    have HP := Lib.hid HP
    have hpos := splitL_pos s 35
    have hhd := Lib.hid (head_eq s)
    have fin1 : Hid (sealB (headB s) = s → openT s = (headB s, true)) := Lib.hid (openT_yes h4)
    have fin0 : Hid (¬ sealB (headB s) = s → openT s = (ByteArray.empty, false)) := Lib.hid (fun h => openT_no (fun k => h k.2))
    generalize sealB (headB s) = Z at *
    go_enter Tryd.func14, Tryd.ntmps14
    go_wp2_with fail
    refine (HP.out _).mono ?_
    rintro e w1 ⟨A, c, rfl, o1, b1⟩
    have rd := o1.rd
    have O1 := Lib.hid o1
    have B1 := Lib.hid b1
    clear o1 b1
    obtain ⟨b, off, rfl, _, hc⟩ := rd.at_ (k := 0) hpos
    rw [hhd.out, Nat.add_zero] at hc
    clear rd
    generalize headB s = t at *
    generalize (splitL s 35).length = n at *
    go_wp2_with fail
    refine (HS.out _).mono ?_
    rintro e w2 ⟨rfl, q⟩
    have b2 := Lib.hid (Below.next B1.out q.below)
    by_cases he : Z = s
    · have f := Lib.hid (fin1.out he)
      have hz2 : (Z.toList == s.toList) = true := by simp [he]
      clear he
      go_wp2_with fail
      go_ret2
      exact ⟨ret_tv f.out, b2.out⟩
    · have f := Lib.hid (fin0.out he)
      have hz2 := str_ne he
      clear he
      go_wp2_with fail
      go_ret2
      exact ⟨ret_tv f.out, b2.out⟩
  · have h41 : (4000 : Int) < (s.size : Int) := by omega
    have fin := Lib.hid (openT_no (s := s) (fun h => h4 h.1))
    go_enter Tryd.func14, Tryd.ntmps14
    go_wp2_with fail
    go_ret2
    exact ⟨ret_tv fin.out, Below.refl _ _⟩
theorem stB_head {s : ByteArray} {o : Nat} (h2 : ∀ j, j < o → s.data.toList[j]? ≠ some 35) : stB (s.extract 0 o) 35 = false := by
  unfold stB
  rw [decide_eq_false_iff_not]
  intro h
  obtain ⟨j, hj⟩ := List.mem_iff_getElem?.1 h
  have e : (s.extract 0 o).data.toList = s.data.toList.take o := by simp [ByteArray.data_extract]
  rw [e, List.getElem?_take] at hj
  split at hj
  · exact h2 j (by assumption) hj
  · simp at hj
set_option maxHeartbeats 800000 in
theorem c_OpenText (s : ByteArray) (w : World) (hs : s.size ≤ maxLen) (ht : Tab w) :
    Calls Tryd.prog 15 #[.string s] w fun e w' => e = .returned (tv (openT s)) ∧ Below w.heap.size w w' := by
  have hs' := hs
  unfold maxLen at hs'
  have HI : ∀ w, Calls Tryd.prog 35 #[.string s, .int .u8 35] w fun e w' => e = .returned (.int .i64 (Lib.indexByte s.data.toList 35)) ∧ w' = w := fun w => Tryd.strings_IndexByte s 35 w
  have hge := Lib.indexByte_ge s.data.toList 35
  by_cases h : Lib.indexByte s.data.toList 35 < 0
  · have hh : headB s = s := by rw [headB, if_pos h]
    have fin := Lib.hid (openT_no (s := s) (fun k => by
      have h1 := congrArg ByteArray.size k.2
      rw [hh, sealB_size] at h1; omega))
    have HI := Lib.hid HI
    clear hh
    generalize Lib.indexByte s.data.toList 35 = i at *
    go_enter Tryd.func15, Tryd.ntmps15
    go_wp2_with fail
    refine (HI.out _).mono ?_
    rintro e w1 ⟨rfl, rfl⟩
    go_wp2_with fail
    go_ret2
    exact ⟨ret_tv fin.out, Below.refl _ _⟩
  · obtain ⟨o, ho⟩ := Int.eq_ofNat_of_zero_le (show 0 ≤ Lib.indexByte s.data.toList 35 by omega)
    obtain ⟨h1, h2⟩ := Lib.indexByte_some ho
    have hlt := idx_lt h1
    have hh : headB s = s.extract 0 o := by rw [headB, if_neg h, ho]; rfl
    have hst := stB_head h2
    have hsz : (s.extract 0 o).size = o := by simp [ByteArray.size_extract]; omega
    have HC := Lib.hid (fun w h => c_SealText (s.extract 0 o) w (by rw [hsz]; unfold maxLen; omega) h)
    rw [ho] at HI
    have HI := Lib.hid HI
    have hsl := sealB_size (s.extract 0 o)
    by_cases he : s.size ≤ 4000 ∧ sealB (headB s) = s
    · have fin := Lib.hid (openT_yes he.1 he.2)
      rw [hh] at fin he
      have hst2 : sealT (s.extract 0 o) = (s, true) := by
        rw [sealT_yes (by omega) hst (by rw [he.2]; exact he.1), he.2]
      rw [hst2] at HC
      clear hst2 hsl hst hh he h h1 h2 hge ho
      go_enter Tryd.func15, Tryd.ntmps15
      go_wp2_with fail
      refine (HI.out _).mono ?_
      rintro e w1 ⟨rfl, rfl⟩
      go_wp2_with fail
      refine (HC.out _ ht).mono ?_
      rintro e w1 ⟨rfl, b⟩
      go_wp2_with fail
      go_ret2
      exact ⟨ret_tv fin.out, b⟩
    · have fin := Lib.hid (openT_no he)
      rw [hh] at he
      obtain ⟨m, hm⟩ : ∃ m, sealT (s.extract 0 o) = m := ⟨_, rfl⟩
      obtain ⟨z, ok⟩ := m
      have hz0 : ok = true → ¬ z = s := by
        intro hok e
        subst e
        rw [hok] at hm
        unfold sealT at hm
        split at hm
        · rename_i k
          have := congrArg Prod.fst hm
          simp at this
          exact he ⟨by rw [← this]; exact k.2.2, this⟩
        · have := congrArg Prod.snd hm
          simp at this
      rw [hm] at HC
      clear hm hsl hst hh he h h1 h2 hge ho
      cases ok
      · clear hz0
        go_enter Tryd.func15, Tryd.ntmps15
        go_wp2_with fail
        refine (HI.out _).mono ?_
        rintro e w1 ⟨rfl, rfl⟩
        go_wp2_with fail
        refine (HC.out _ ht).mono ?_
        rintro e w1 ⟨rfl, b⟩
        go_wp2_with fail
        go_ret2
        exact ⟨ret_tv fin.out, b⟩
      · have hz := hz0 rfl
        have hz2 := str_ne hz
        clear hz0 hz
        go_enter Tryd.func15, Tryd.ntmps15
        go_wp2_with fail
        refine (HI.out _).mono ?_
        rintro e w1 ⟨rfl, rfl⟩
        go_wp2_with fail
        refine (HC.out _ ht).mono ?_
        rintro e w1 ⟨rfl, b⟩
        go_wp2_with fail
        go_ret2
        exact ⟨ret_tv fin.out, b⟩
set_option maxHeartbeats 800000 in
theorem w_FnExactOpenText (s : ByteArray) (w : World) (hs : s.size ≤ maxLen) (ht : Tab w) :
    Calls Tryd.prog 5 #[.string s] w fun e w' => e = .returned (.bool true) ∧ Below w.heap.size w w' := by
  have hs' := hs
  unfold maxLen at hs
  by_cases hn : s.size ≤ 1048576
  · have HS := Lib.hid (fun w => s_OpenText s w hn)
    have HC := Lib.hid (fun w => c_OpenText s w hs')
    obtain ⟨m, hm⟩ : ∃ m, openT s = m := ⟨_, rfl⟩
    obtain ⟨t, ok⟩ := m
    rw [hm] at HS HC
    go_enter Tryd.func5, Tryd.ntmps5
    go_wp2_with fail
    refine (HS.out _).mono ?_
    rintro e w1 ⟨rfl, b1⟩
    have ht1 := ht.below b1
    go_wp2_with fail
    refine (HC.out _ ht1).mono ?_
    rintro e w2 ⟨rfl, b⟩
    have b2 := Below.next b1 b
    go_wp2_with fail
    go_ret
    exact ⟨rfl, b2⟩
  · go_enter Tryd.func5, Tryd.ntmps5
    go_wp2_with fail
    go_ret
    exact ⟨rfl, Below.refl _ _⟩
end Go.Proofs.YtppaplgeecojgaaDoor
