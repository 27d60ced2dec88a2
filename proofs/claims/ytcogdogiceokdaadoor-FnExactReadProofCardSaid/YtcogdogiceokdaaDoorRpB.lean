/- Numbers with commas between are read: the program's and the reference's. -/
import Derived.Test.YtcogdogiceokdaaDoorRpA
import Derived.Test.YtcogdogiceokdaaDoorNtG
import Derived.Test.YtcogdogiceokdaaDoorPtA
namespace Go.Proofs.YtcogdogiceokdaaDoor
open Go.RowKit

/-- What the program's readNumbers hands back. -/
def numsR (s : ByteArray) : List Int × Bool := if okL s = true then (rdL s, true) else ([], false)
theorem numsR_yes {s : ByteArray} (h : okL s = true) : numsR s = (rdL s, true) := if_pos h
theorem numsR_no {s : ByteArray} (h : okL s = false) : numsR s = ([], false) := by unfold numsR; rw [if_neg (by rw [h]; exact Bool.false_ne_true)]
theorem rdL_some {s : ByteArray} (h : ¬ s.size = 0) : rdL s = (splitL s 44).map fun w => (readT w).1 := by unfold rdL; rw [if_neg h]
theorem okL_bad {s x : ByteArray} {k : Nat} (h : ¬ s.size = 0) (hk : (splitL s 44)[k]? = some x) (hx : (readT x).2 = false) : okL s = false := by
  unfold okL
  rw [decide_eq_false h, Bool.false_or, ← Bool.not_eq_true, List.all_eq_true]
  intro hh
  have := hh x (List.mem_of_getElem? hk)
  rw [hx] at this
  cases this
theorem okL_all {s : ByteArray} (h : ∀ (k : Nat) (x : ByteArray), (splitL s 44)[k]? = some x → (readT x).2 = true) : okL s = true := by
  unfold okL
  rw [Bool.or_eq_true, List.all_eq_true]
  right
  intro x hx
  obtain ⟨k, hk⟩ := List.getElem?_of_mem hx
  exact h k x hk
theorem listP_own {w wz : World} {g n cap : Nat} {xs : List Int} {m : List Int × Bool} {e : Ending} (hm : m = (xs, true)) (hn : xs.length = n) (he : e = .returned (.tuple #[.slice (some ⟨g, 0, none⟩) n cap, .bool true])) (ho : wz.ownsRow w.heap.size 3 1 (.slice (some ⟨g, 0, none⟩) n cap) n (xs.map (Value.int .i64))) (hb : Below w.heap.size w wz) : ListP w m e wz := by
  subst hm hn
  exact ⟨_, cap, he, ho, hb⟩
theorem getD_strs {l : List ByteArray} {k : Nat} (h : k < l.length) : l[k]? = some (l.getD k ByteArray.empty) := by simp [h]
set_option maxHeartbeats 1600000 in
theorem c_readNumbers (s : ByteArray) (w : World) (hs : s.size ≤ 1048576) (ht : Tab w) (hv : SynV w) :
    Calls Tryd.prog 44 #[.string s] w (ListP w (numsR s)) := by
  have HT := Lib.hid ht
  have HV := Lib.hid hv
  clear ht hv
  obtain ⟨m, hm⟩ : ∃ m, Hid (numsR s = m) := ⟨_, Lib.hid rfl⟩
  rw [hm.out]
  by_cases h0 : s.size = 0
  · have hz : s.toList.isEmpty = true := by rw [isE, decide_eq_true h0]
    have fin : m = ([], true) := by
      rw [← hm.out, numsR_yes (by unfold okL; rw [decide_eq_true h0]; rfl)]
      unfold rdL
      rw [if_pos h0]
    have fin := Lib.hid fin
    clear h0
    go_enter Tryd.func44, Tryd.ntmps44
    go_wp2_with fail
    refine bodyPost_ret (results_tmp2 rfl _ _ _) rfl ?_
    rw [fin.out]
    exact ⟨none, 0, rfl, OwnI.nil _ _, Below.refl _ _⟩
  · have hz : s.toList.isEmpty = false := by rw [isE, decide_eq_false h0]
    have H0 := Lib.hid h0
    have HSp := Lib.hid (fun w => c_Split s 44 w hs)
    have hcnt := splitL_count s 44
    have HM := Lib.hid (fun x (hx : x ∈ splitL s 44) => Nat.le_trans (splitL_mem hx) hs)
    have HB := Lib.hid (fun (k : Nat) (x : ByteArray) (hk : (splitL s 44)[k]? = some x) (hx : (readT x).2 = false) => hm.out.symm.trans (numsR_no (okL_bad h0 hk hx)))
    have HG := Lib.hid (fun h => hm.out.symm.trans ((numsR_yes (okL_all h)).trans (by rw [rdL_some h0])))
    clear h0 hm
    generalize splitL s 44 = W at *
    go_enter Tryd.func44, Tryd.ntmps44
    go_wp2_with fail
    refine (HSp.out _).mono ?_
    rintro e w1 ⟨rfl, o1, b1⟩
    have hs1 := b1.size
    have O1 := Lib.hid o1
    have B1 : Hid (Below w.heap.size w w1) := Lib.hid (Below.next ((Below.refl _ _).alloc (Nat.le_refl _) _) b1)
    have R1 : Hid (w1.ownsRow w.heap.size 3 1 (.slice (some ⟨w.heap.size, 0, none⟩) 0 0) 0 (([] : List Int).map (Value.int .i64))) := Lib.hid (own_below (own_lit0 w 3 w.heap.size (Nat.le_refl _)) b1)
    simp only [World.size_alloc] at O1 hs1 ⊢
    clear o1 b1
    go_wp2_with fail
    go_loopg [4, 15] W.length (fun mm o i wx => ∃ (k g cap : Nat) (ys : List Int) (wz : World), wz = wx ∧ k ≤ W.length ∧ mm = W.length - k ∧ i = .int .i64 k ∧ o = .slice (some ⟨g, 0, none⟩) k cap ∧
      Hid (wz.ownsRow w.heap.size 3 1 (.slice (some ⟨g, 0, none⟩) k cap) k (ys.map (Value.int .i64))) ∧ Hid (ys = (W.take k).map fun w => (readT w).1) ∧ w.heap.size ≤ g ∧ Hid (Below w.heap.size w wz) ∧
      Hid (OwnS wz (w.heap.size + 1) (some ⟨w.heap.size + 1, 0, none⟩) W.length W ∧ (Value.slice (some ⟨w.heap.size + 1, 0, none⟩) W.length W.length).ownBlock ≠ some g) ∧ Hid (∀ (j : Nat) (x : ByteArray), j < k → W[j]? = some x → (readT x).2 = true))
    case atStart => exact ⟨0, w.heap.size, 0, [], _, rfl, Nat.zero_le _, rfl, rfl, rfl, R1, Lib.hid rfl, Nat.le_refl _, B1, Lib.hid ⟨O1.out, fun e => by have := Option.some.inj (show some (w.heap.size + 1) = some w.heap.size from e); omega⟩, Lib.hid (fun j x hj => by omega)⟩
    case round =>
      obtain ⟨k, g, cap, ys, wz, rfl, hk, rfl, rfl, rfl, hown, hys, hgw, hb, how, hinv⟩ := hrel
      clear O1 R1 B1
      by_cases hlt : k < W.length
      · have hltI : (k : Int) < (W.length : Int) := by omega
        obtain ⟨b, off, e1, _, hc⟩ := (OwnS.rd how.out.1).at_ hlt
        injection e1 with e1
        injection e1 with e1 e2
        subst e1 e2
        rw [Nat.zero_add] at hc
        have hxk := Lib.hid (getD_strs hlt)
        have hys2 : Hid (ys ++ [(readT (W.getD k ByteArray.empty)).1] = (W.take (k + 1)).map fun w => (readT w).1) := Lib.hid (by rw [map_snoc _ hxk.out, ← hys.out])
        have hxs := HM.out (W.getD k ByteArray.empty) (List.mem_of_getElem? hxk.out)
        generalize W.getD k ByteArray.empty = x at *
        have HR := Lib.hid (c_ReadNum x wz hxs (HT.out.below hb.out) (HV.out.below hb.out))
        cases hok : (readT x).2
        · have fin := Lib.hid (HB.out k x hxk.out hok)
          rw [hok] at HR
          clear hok
          generalize (readT x).1 = v at *
          go_wp2_with fail
          refine HR.out.mono ?_
          rintro e w2 ⟨rfl, b2⟩
          have B2 := Lib.hid (Below.next hb.out b2)
          clear b2
          go_wp2_with fail
          refine bodyPost_ret (results_tmp2 rfl _ _ _) rfl ?_
          rw [fin.out]
          exact ⟨none, 0, rfl, OwnI.nil _ _, B2.out⟩
        · have hinv2 : Hid (∀ (j : Nat) (x : ByteArray), j < k + 1 → W[j]? = some x → (readT x).2 = true) := Lib.hid (fun j y hj hy => by
            by_cases e : j = k
            · subst e
              rw [hxk.out] at hy
              cases hy
              exact hok
            · exact hinv.out j y (by omega) hy)
          rw [hok] at HR
          clear hok hinv
          generalize (readT x).1 = v at *
          go_wp2_with fail
          refine HR.out.mono ?_
          rintro e w2 ⟨rfl, b2⟩
          have hown2 := own_below hown.out b2
          have how2 := Lib.hid (own_below how.out.1 b2)
          have hne := Lib.hid how.out.2
          have B2 := Lib.hid (Below.next hb.out b2)
          have hB : w.heap.size ≤ w2.heap.size := B2.out.size
          clear b2 hown how hb
          go_wp2_with (at_builtin; refine app1 _ 42 3 (.int .i64 0) 8 Tryd.underlying42 hI_int rfl rfl (.tmp 26) (.tmp 28) rfl w.heap.size _ _ _ rfl hown2 (.int .i64 v) rfl rfl (by omega) (by omega) hB ?_; intro g' cap' w' h1 h2 h3)
          go_roundg (W.length - (k + 1))
          case measure => omega
          case rel =>
            refine ⟨k + 1, g', cap', ys ++ [v], _, rfl, by omega, rfl, by go_num, rfl, Lib.hid ?_, hys2, ?_, Lib.hid (B2.out.grown h2 hB (by intro q hq; have := Option.some.inj (show some g = some q from hq); omega)), Lib.hid (keep_words how2.out hne.out h2 h3), hinv2⟩
            · rw [List.map_append]; exact h1
            · rcases h3 with h3 | h3
              · have := Option.some.inj (show some g = some g' from h3); omega
              · omega
      · obtain rfl : k = W.length := by omega
        have hy1 : ys = W.map fun w => (readT w).1 := by have := hys.out; rwa [List.take_length] at this
        have fin := Lib.hid (HG.out (fun j x hj => hinv.out j x (List.getElem?_eq_some_iff.1 hj).1 hj))
        have hyl : ys.length = W.length := by rw [hy1, List.length_map]
        rw [← hy1] at fin
        clear hy1
        go_wp2_with fail
        refine bodyPost_ret (results_tmp2 rfl _ _ _) rfl ?_
        exact listP_own (g := g) (n := W.length) (cap := cap) fin.out hyl rfl hown.out hb.out
/-- A new slice of ints. -/
def NewI (w : World) (xs : List Int) (e : Ending) (w' : World) : Prop := ∃ A c, e = .returned (.slice A xs.length c) ∧ OwnI w' w.heap.size A c xs ∧ Below w.heap.size w w'
theorem newI_own {w wz : World} {g n cap : Nat} {xs : List Int} {e : Ending} (hn : xs.length = n) (he : e = .returned (.slice (some ⟨g, 0, none⟩) n cap)) (ho : wz.ownsRow w.heap.size 3 1 (.slice (some ⟨g, 0, none⟩) n cap) n (xs.map (Value.int .i64))) (hb : Below w.heap.size w wz) : NewI w xs e wz := by
  subst hn
  exact ⟨_, cap, he, ho, hb⟩
set_option maxHeartbeats 1600000 in
theorem s_l15List (s : ByteArray) (w : World) (hs : s.size ≤ 1048576) :
    Calls Tryd.prog 24 #[.string s] w (NewI w (rdL s)) := by
  obtain ⟨m, hm⟩ : ∃ m, Hid (rdL s = m) := ⟨_, Lib.hid rfl⟩
  rw [hm.out]
  have HSp := Lib.hid (fun w => s_l1Split s 44 w hs)
  have hcnt := splitL_count s 44
  have hpos := Lib.hid (List.length_pos_iff.2 (splitL_ne s 44))
  have HM := Lib.hid (fun x (hx : x ∈ splitL s 44) => Nat.le_trans (splitL_mem hx) hs)
  by_cases h0 : s.size = 0
  · have hz : s.toList.isEmpty = true := by rw [isE, decide_eq_true h0]
    have fin : m = [] := by
      rw [← hm.out]
      unfold rdL
      rw [if_pos h0]
    have fin := Lib.hid fin
    clear h0
    generalize splitL s 44 = W at *
    have hp := hpos.out
    have hpI : (0 : Int) < (W.length : Int) := by omega
    go_enter Tryd.func24, Tryd.ntmps24
    go_wp2_with fail
    refine (HSp.out _).mono ?_
    rintro e w1 ⟨A, c, rfl, o1, b1⟩
    have B1 : Hid (Below w.heap.size w w1) := Lib.hid (Below.next ((Below.refl _ _).alloc (Nat.le_refl _) _) b1)
    have R1 : Hid (w1.ownsRow w.heap.size 3 1 (.slice (some ⟨w.heap.size, 0, none⟩) 0 0) 0 (([] : List Int).map (Value.int .i64))) := Lib.hid (own_below (own_lit0 w 3 w.heap.size (Nat.le_refl _)) b1)
    clear o1 b1
    go_wp2_with fail
    go_loopg [3, 5] 0 (fun mm o i wx => wx = w1 ∧ i = .int .i64 0 ∧ o = .slice (some ⟨w.heap.size, 0, none⟩) 0 0)
    case atStart => exact ⟨rfl, rfl, rfl⟩
    case round =>
      obtain ⟨rfl, rfl, rfl⟩ := hrel
      go_wp2_with fail
      refine bodyPost_ret (results_tmp rfl _ _ _) rfl ?_
      rw [fin.out]
      exact newI_own (xs := []) (g := w.heap.size) (n := 0) (cap := 0) rfl rfl R1.out B1.out
  · have hz : s.toList.isEmpty = false := by rw [isE, decide_eq_false h0]
    have HG := Lib.hid (hm.out.symm.trans (rdL_some h0))
    clear h0 hm
    generalize splitL s 44 = W at *
    go_enter Tryd.func24, Tryd.ntmps24
    go_wp2_with fail
    refine (HSp.out _).mono ?_
    rintro e w1 ⟨A, c, rfl, o1, b1⟩
    have O1 := Lib.hid o1
    have B1 : Hid (Below w.heap.size w w1) := Lib.hid (Below.next ((Below.refl _ _).alloc (Nat.le_refl _) _) b1)
    have R1 : Hid (w1.ownsRow w.heap.size 3 1 (.slice (some ⟨w.heap.size, 0, none⟩) 0 0) 0 (([] : List Int).map (Value.int .i64))) := Lib.hid (own_below (own_lit0 w 3 w.heap.size (Nat.le_refl _)) b1)
    have N1 : Hid ((Value.slice A W.length c).ownBlock ≠ some w.heap.size) := Lib.hid (fun e => by
      have := (o1.lt _ e).1
      rw [World.size_alloc] at this
      omega)
    clear o1 b1
    go_wp2_with fail
    go_loopg [3, 5] W.length (fun mm o i wx => ∃ (k g cap : Nat) (ys : List Int) (wz : World), wz = wx ∧ k ≤ W.length ∧ mm = W.length - k ∧ i = .int .i64 k ∧ o = .slice (some ⟨g, 0, none⟩) k cap ∧
      Hid (wz.ownsRow w.heap.size 3 1 (.slice (some ⟨g, 0, none⟩) k cap) k (ys.map (Value.int .i64))) ∧ Hid (ys = (W.take k).map fun w => (readT w).1) ∧ w.heap.size ≤ g ∧ Hid (Below w.heap.size w wz) ∧
      Hid (OwnS wz w.heap.size A c W ∧ (Value.slice A W.length c).ownBlock ≠ some g))
    case atStart => exact ⟨0, w.heap.size, 0, [], _, rfl, Nat.zero_le _, rfl, rfl, rfl, R1, Lib.hid rfl, Nat.le_refl _, B1, Lib.hid ⟨own_low O1.out (by simp), N1.out⟩⟩
    case round =>
      obtain ⟨k, g, cap, ys, wz, rfl, hk, rfl, rfl, rfl, hown, hys, hgw, hb, how⟩ := hrel
      clear O1 R1 B1 N1
      by_cases hlt : k < W.length
      · have hltI : (k : Int) < (W.length : Int) := by omega
        obtain ⟨b, off, rfl, _, hc⟩ := (OwnS.rd how.out.1).at_ hlt
        have hxk := Lib.hid (getD_strs hlt)
        have hys2 : Hid (ys ++ [(readT (W.getD k ByteArray.empty)).1] = (W.take (k + 1)).map fun w => (readT w).1) := Lib.hid (by rw [map_snoc _ hxk.out, ← hys.out])
        have hxs := HM.out (W.getD k ByteArray.empty) (List.mem_of_getElem? hxk.out)
        generalize W.getD k ByteArray.empty = x at *
        have HR := Lib.hid (s_l1Read x wz hxs)
        generalize (readT x).1 = v at *
        generalize (readT x).2 = ok at *
        go_wp2_with fail
        refine HR.out.mono ?_
        rintro e w2 ⟨rfl, q2⟩
        have hown2 := own_below hown.out q2.below
        have how2 := Lib.hid (own_below how.out.1 q2.below)
        have hne := Lib.hid how.out.2
        have B2 := Lib.hid (Below.next hb.out q2.below)
        have hB : w.heap.size ≤ w2.heap.size := B2.out.size
        clear q2 hown how hb
        go_wp2_with (at_builtin; refine app1 _ 42 3 (.int .i64 0) 8 Tryd.underlying42 hI_int rfl rfl (.tmp 29) (.tmp 31) rfl w.heap.size _ _ _ rfl hown2 (.int .i64 v) rfl rfl (by omega) (by omega) hB ?_; intro g' cap' w' h1 h2 h3)
        go_roundg (W.length - (k + 1))
        case measure => omega
        case rel =>
          refine ⟨k + 1, g', cap', ys ++ [v], _, rfl, by omega, rfl, by go_num, rfl, Lib.hid ?_, hys2, ?_, Lib.hid (B2.out.grown h2 hB (by intro q hq; have := Option.some.inj (show some g = some q from hq); omega)), Lib.hid (keep_words how2.out hne.out h2 h3)⟩
          · rw [List.map_append]; exact h1
          · rcases h3 with h3 | h3
            · have := Option.some.inj (show some g = some g' from h3); omega
            · omega
      · obtain rfl : k = W.length := by omega
        have hy1 : ys = W.map fun w => (readT w).1 := by have := hys.out; rwa [List.take_length] at this
        have hyl : ys.length = W.length := by rw [hy1, List.length_map]
        have fin : Hid (m = ys) := Lib.hid (HG.out.trans hy1.symm)
        clear hy1
        go_wp2_with fail
        refine bodyPost_ret (results_tmp rfl _ _ _) rfl ?_
        rw [fin.out]
        exact newI_own (g := g) (n := W.length) (cap := cap) hyl rfl hown.out hb.out
end Go.Proofs.YtcogdogiceokdaaDoor
