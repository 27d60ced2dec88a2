/- The program's ReadProof. -/
import Derived.Test.YtcogdogiceokdaaDoorRpF
import Derived.Test.YtcogdogiceokdaaDoorPtC
namespace Go.Proofs.YtcogdogiceokdaaDoor
open Go.RowKit

/-- Claims and a bool are handed back, the claims the call's own. -/
def ProofR (m : List Dat × Bool) (w : World) (e : Ending) (w' : World) : Prop :=
  ∃ A c es, e = .returned (.tuple #[.agg #[.slice A (es : List El).length c], .bool m.2]) ∧ dats es = m.1 ∧ OwnC w' w.heap.size A c es ∧ Below w.heap.size w w'
theorem ProofR.no {m : List Dat × Bool} {w w' : World} {e : Ending} (hm : m = ([], false)) (he : e = .returned (.tuple #[.agg #[.slice none 0 0], .bool false])) (hb : Below w.heap.size w w') : ProofR m w e w' := by
  subst hm
  exact ⟨none, 0, [], he, rfl, OwnC.nil _ _, hb⟩
theorem ProofR.nil {m : List Dat × Bool} {w w' : World} {e : Ending} (hm : m = ([], true)) (he : e = .returned (.tuple #[.agg #[.slice none 0 0], .bool true])) (hb : Below w.heap.size w w') : ProofR m w e w' := by
  subst hm
  exact ⟨none, 0, [], he, rfl, OwnC.nil _ _, hb⟩
theorem ProofR.yes {m : List Dat × Bool} {w w' : World} {e : Ending} {A : Option Addr} {c n : Nat} {es : List El} (hm : m = (dats es, true)) (hn : es.length = n) (he : e = .returned (.tuple #[.agg #[.slice A n c], .bool true])) (ho : OwnC w' w.heap.size A c es) (hb : Below w.heap.size w w') : ProofR m w e w' := by
  subst hm hn
  exact ⟨A, c, es, he, rfl, ho, hb⟩
theorem res_proof2 {fn : Func} {s t : Nat} (tmps : Array Value) (w : World) {b : Nat} {A1 : Option Addr} {n1 c1 : Nat} (h : fn.results = #[.cell s 30, .tmp t])
    (hp : tmps.getD s undef = .pointer (some ⟨b, 0, none⟩)) (hx : w.cell? ⟨b, 0, none⟩ = some (.slice A1 n1 c1)) :
    (results fn tmps).run Tryd.prog w = .ok (.tuple #[.agg #[.slice A1 n1 c1], tmps.getD t undef]) w := by
  simp only [Array.getD_eq_getD_getElem?] at hp
  simp only [results, h]
  simp [hp, go_sem, hx]
theorem wordsB_some {s : ByteArray} (h : ¬ s.size = 0) : wordsB s = splitL s 59 := if_neg h
theorem wordsB_zero {s : ByteArray} (h : s.size = 0) : wordsB s = [] := if_pos h
theorem size_zero {s : ByteArray} (h : s.size = 0) : s = ByteArray.empty := by
  have h1 : s.data.toList.length = 0 := by rw [← h]; exact Array.length_toList
  have h2 := List.length_eq_zero_iff.1 h1
  exact ByteArray.ext (Array.toList_inj.1 (by rw [h2]; rfl))
theorem readP_zero {s : ByteArray} (h : s.size = 0) : readP s = ([], true) := by
  have e := size_zero h
  have hd : dsB s = [] := by unfold dsB; rw [wordsB_zero h]; rfl
  have := readP_yes (s := s) (by omega) (by rw [wordsB_zero h]; rfl) (by rw [hd]; rfl) (by rw [hd, e]; rfl)
  rw [this, hd]
theorem proofC_nil : proofC [] = (ByteArray.empty, true) := by
  rw [proofC_yes rfl]
  rfl
/-- What is told of the whole: the test at the end. -/
theorem readP_end {s : ByteArray} (h1 : s.size ≤ 4000) (h2 : (wordsB s).all shp = true) : readP s = if (proofC (dsB s)).2 = true ∧ (proofC (dsB s)).1 = s then (dsB s, true) else ([], false) := by
  cases ht : told (dsB s)
  · rw [proofC_no ht, readP_told ht]
    rfl
  · rw [proofC_yes ht]
    by_cases he : strOfNums (proofT (dsB s)) = s
    · rw [readP_yes h1 h2 ht he, if_pos ⟨rfl, he⟩]
    · rw [readP_text he, if_neg (fun h => he h.2)]
theorem strs_ne {s t : ByteArray} (h : ¬ t = s) : (t.toList == s.toList) = false := by
  rw [beq_eq_false_iff_ne]
  intro e
  apply h
  rw [Lib.toList_data, Lib.toList_data] at e
  exact ByteArray.ext (Array.toList_inj.1 e)
theorem strs_eq {s t : ByteArray} (h : t = s) : (t.toList == s.toList) = true := by rw [h]; exact beq_self_eq_true _
theorem two_boxes (w : World) (u v : Value) : OwnA ((w.alloc (.cells #[u] 30)).alloc (.cells #[v] 30)) w.heap.size [bItem w.heap.size u, bItem (w.heap.size + 1) v] := by
  refine ⟨fun it hi => ?_, ?_⟩
  · simp only [List.mem_cons, List.not_mem_nil, or_false] at hi
    rcases hi with rfl | rfl
    · exact World.ownsRow.alloc (World.ownsRow_lit w #[u] 1 (Nat.le_refl _) (by decide) rfl) _
    · have := World.ownsRow_lit (base := w.heap.size) (e := 30) (size := 1) (w.alloc (.cells #[u] 30)) #[v] 1 (by simp) (by decide) rfl
      simpa [bItem, Item.own] using this
  · simp only [List.pairwise_cons, List.mem_cons, List.not_mem_nil, or_false, forall_eq, List.Pairwise.nil, and_true, false_implies, implies_true]
    refine .inr fun e => ?_
    have := Option.some.inj (show some w.heap.size = some (w.heap.size + 1) from e)
    omega
theorem all_shp {l : List ByteArray} (h : ∀ (j : Nat) (x : ByteArray), l[j]? = some x → okC x = true) : l.all shp = true := all_take fun j x hx => okC_shp (h j x hx)
theorem tots_of_dats {es : List El} {ds : List Dat} (h : dats es = ds) : tots es = (flat ds).length := by rw [← h]; exact (flat_tots es).symm
theorem tots_rows {es : List El} {b : Nat} (h : tots es ≤ b) : ∀ e ∈ es, ∀ r ∈ e.rs, r.xs.length ≤ b := fun e he r hr => by
  have h1 := tots_mem he
  have h2 := El.tot_mem hr
  omega
set_option maxRecDepth 100000 in
set_option maxHeartbeats 3200000 in
theorem c_ReadProof (s : ByteArray) (w : World) (hs : s.size ≤ 1048576) (ht : Tab w) (hv : SynV w) :
    Calls Tryd.prog 11 #[.string s] w (ProofR (readP s) w) := by
  have HT := Lib.hid ht
  have HV := Lib.hid hv
  clear ht hv
  obtain ⟨m, hm⟩ : ∃ m, Hid (readP s = m) := ⟨_, Lib.hid rfl⟩
  rw [hm.out]
  by_cases h4 : s.size ≤ 4000
  · by_cases h0 : s.size = 0
    · have hz : (s.toList == ([] : List UInt8)) = true := by
        have := isE s
        rw [decide_eq_true h0] at this
        rw [beq_iff_eq]
        exact List.isEmpty_iff.1 this
      have hz2 : s.toList.isEmpty = true := by rw [isE, decide_eq_true h0]
      have fin : Hid (m = ([], true)) := Lib.hid (hm.out.symm.trans (readP_zero h0))
      have h4I : ¬ (4000 : Int) < (s.size : Int) := by omega
      have HC := Lib.hid (fun w h => c_ProofText none 0 0 [] w RdE.nil (Nat.zero_le _) (Nat.zero_le _) (fun e he => by cases he) h)
      rw [show dats [] = [] from rfl, proofC_nil] at HC
      obtain rfl := size_zero h0
      clear h4 hm h0
      simp only [tv] at HC
      have hee : (ByteArray.empty.toList == ByteArray.empty.toList) = true := beq_self_eq_true _
      go_enter Tryd.func11, Tryd.ntmps11
      go_wp2_with fail
      refine (HC.out _ (HT.out.below (by go_grown))).mono ?_
      rintro e w1 ⟨rfl, b1⟩
      have k0 : w1.cell? ⟨w.heap.size, 0, none⟩ = some (.slice none 0 0) := bkeep b1 _ _ (by simp [go_sem])
      have k1 : w1.cell? ⟨w.heap.size + 1, 0, none⟩ = some (.slice none 0 0) := bkeep b1 _ _ (by simp [go_sem])
      have f0 : ∀ o, w1.frozen? ⟨w.heap.size, o, none⟩ = false := fun o => ((bcell b1).2 _ _ (by simp [go_sem])).trans (by simp [go_sem])
      have B1 : Hid (Below w.heap.size w w1) := Lib.hid (Below.next (by go_grown) b1)
      have K0 := Lib.hid k0
      clear HC b1
      go_wp2_with fail
      refine bodyPost_ret (res_proof2 _ _ rfl rfl (World.cell?_setCell_same _ _ _ K0.out)) rfl (ProofR.nil fin.out rfl ?_)
      exact B1.out.setCell (Nat.le_refl _) _
    · have hz2 : s.toList.isEmpty = false := by rw [isE, decide_eq_false h0]
      have h4I : ¬ (4000 : Int) < (s.size : Int) := by omega
      have HSp := Lib.hid (fun w => c_Split s 59 w hs)
      have hcnt := splitL_count s 59
      have HM := Lib.hid (fun x (hx : x ∈ splitL s 59) => Nat.le_trans (splitL_mem hx) hs)
      have HB := Lib.hid (fun (k : Nat) (x : ByteArray) (hk : (splitL s 59)[k]? = some x) (hx : okC x = false) => hm.out.symm.trans (readP_bad (by rw [wordsB_some h0]; exact hk) hx))
      have HG := Lib.hid (fun (h : ∀ (j : Nat) (x : ByteArray), (splitL s 59)[j]? = some x → okC x = true) => hm.out.symm.trans (readP_end h4 (by rw [wordsB_some h0]; exact all_shp h)))
      have HF := Lib.hid (fun (h : ∀ (j : Nat) (x : ByteArray), (splitL s 59)[j]? = some x → okC x = true) => dsB_flat (s := s) (by rw [wordsB_some h0]; exact all_shp h))
      have hds : dsB s = (splitL s 59).map rdC := by unfold dsB; rw [wordsB_some h0]
      rw [hds] at HG HF
      clear hm hds h0
      generalize splitL s 59 = W at *
      have Wb := Lib.hid (two_boxes w (.slice none 0 0) (.slice none 0 0))
      go_enter Tryd.func11, Tryd.ntmps11
      go_wp2_with fail
      refine (HSp.out _).mono ?_
      rintro e w1 ⟨rfl, o1, b1⟩
      have S1 : Hid (St w1 w.heap.size w.heap.size (w.heap.size + 1) (some ⟨w.heap.size + 1 + 1, 0, none⟩) W.length W (.slice none 0 0) none 0 []) := Lib.hid (by
        have := St.start Wb.out b1 (by simp; omega) o1
        simpa using this)
      have B1 : Hid (Below w.heap.size w w1) := Lib.hid (Below.next (by go_grown) b1)
      simp only [World.size_alloc]
      clear o1 b1 Wb HSp
      go_wp2_with fail
      go_loopg [21] W.length (fun mm i wx => ∃ (k c : Nat) (A : Option Addr) (es : List El) (wz : World), wz = wx ∧ k ≤ W.length ∧ mm = W.length - k ∧ i = .int .i64 k ∧ Hid (es.length = k) ∧ Hid (dats es = (W.take k).map rdC) ∧
        Hid (∀ (j : Nat) (x : ByteArray), j < k → W[j]? = some x → okC x = true) ∧ Hid (St wz w.heap.size w.heap.size (w.heap.size + 1) (some ⟨w.heap.size + 1 + 1, 0, none⟩) W.length W (.slice A k c) A c es) ∧ Hid (Below w.heap.size w wz))
      case atStart => exact ⟨0, 0, none, [], _, rfl, Nat.zero_le _, rfl, rfl, Lib.hid rfl, Lib.hid rfl, Lib.hid (fun j x hj => by omega), S1, B1⟩
      case round =>
        obtain ⟨k, c, A, es, wz, rfl, hk, rfl, rfl, hel, hd, hinv, hst, hb⟩ := hrel
        clear S1 B1
        by_cases hlt : k < W.length
        · have hltI : (k : Int) < (W.length : Int) := by omega
          have hxk := Lib.hid (getD_strs hlt)
          obtain ⟨g, e1, _, hc⟩ := hst.out.words hxk.out
          injection e1 with e1
          injection e1 with e1
          subst e1
          have hd2 : Hid ((dats es) ++ [rdC (W.getD k ByteArray.empty)] = (W.take (k + 1)).map rdC) := Lib.hid (by rw [map_snoc _ hxk.out, ← hd.out])
          have hxs := HM.out (W.getD k ByteArray.empty) (List.mem_of_getElem? hxk.out)
          generalize W.getD k ByteArray.empty = x at *
          have HR := Lib.hid (c_readClaim x wz hxs (HT.out.below hb.out) (HV.out.below hb.out))
          have hB0 : w.heap.size ≤ wz.heap.size := hb.out.size
          have c0z := box_cell hst.out.o0
          have c1z := box_cell hst.out.o1
          have f0z := box_free hst.out.o0
          have f1z := box_free hst.out.o1
          unfold ClaimR at HR
          cases hok : okC x
          · have fin := Lib.hid (HB.out k x hxk.out hok)
            rw [hok] at HR
            clear hok HB HG HF HM
            go_wp2_with fail
            refine HR.out.mono ?_
            rintro e w2 ⟨i1, i2, ⟨A1, c1, xs⟩, ⟨A2, c2, ys⟩, rfl, b2, _⟩
            have k0 := bkeep b2 _ _ c0z
            have f0 : ∀ o, w2.frozen? ⟨w.heap.size, o, none⟩ = false := fun o => ((bcell b2).2 _ _ (cell_lt c0z)).trans (f0z o)
            have l0 : w.heap.size < w2.heap.size := cell_lt k0
            have n0 : ¬ w.heap.size = w2.heap.size := by omega
            have n1 : ¬ w2.heap.size = w.heap.size := by omega
            have K0 := Lib.hid k0
            have B2 := Lib.hid (Below.next hb.out b2)
            simp only [Row.val]
            clear c0z c1z f0z f1z hc b2 hst hd hd2 HR
            go_wp2_with fail
            refine bodyPost_ret (res_proof2 _ _ rfl rfl (cell_alloc (World.cell?_setCell_same _ _ _ K0.out) _)) rfl (ProofR.no fin.out rfl ?_)
            exact (B2.out.setCell (Nat.le_refl _) _).alloc (by simp; omega) _
          · have hinv2 : Hid (∀ (j : Nat) (x : ByteArray), j < k + 1 → W[j]? = some x → okC x = true) := Lib.hid (fun j y hj hy => by
              by_cases e : j = k
              · subst e
                rw [hxk.out] at hy
                cases hy
                exact hok
              · exact hinv.out j y (by omega) hy)
            rw [hok] at HR
            clear hok hinv HB HG HF HM
            go_wp2_with fail
            refine HR.out.mono ?_
            rintro e w2 ⟨i1, i2, ⟨A1, c1, xs⟩, ⟨A2, c2, ys⟩, rfl, b2, hy⟩
            obtain ⟨hrd, o1, o2, ap⟩ := hy (by first | trivial | rfl)
            have k1 := bkeep b2 _ _ c1z
            have f1 : ∀ o, w2.frozen? ⟨w.heap.size + 1, o, none⟩ = false := fun o => ((bcell b2).2 _ _ (cell_lt c1z)).trans (f1z o)
            have l1 : w.heap.size + 1 < w2.heap.size := cell_lt k1
            have n0 : ¬ w.heap.size + 1 = w2.heap.size := by omega
            have n1 : ¬ w2.heap.size = w.heap.size + 1 := by omega
            have B2 := Lib.hid b2
            have O1 := Lib.hid o1
            have O2 := Lib.hid o2
            have AP := Lib.hid ap
            have hd3 : Hid (dats (es ++ [⟨[i1, i2], [⟨A1, c1, xs⟩, ⟨A2, c2, ys⟩]⟩]) = (W.take (k + 1)).map rdC) := Lib.hid (by
              rw [← hd2.out, hrd]
              simp [dats, El.dat])
            simp only [Row.val]
            clear c0z c1z f0z f1z hc hd hd2 HR hy hrd o1 o2 ap
            have BB : Hid (Below w.heap.size w w2) := Lib.hid (Below.next hb.out b2)
            clear b2
            go_wp2_with (at_builtin; refine St.app hst.out hB0 (B2.out.alloc B2.out.size _) (World.ownsRow.alloc O1.out _) (World.ownsRow.alloc O2.out _) AP.out (w2.heap.size + 1) (by simp) rfl (.tmp 34) (.tmp 36) rfl hel.out rfl rfl (by omega) ?_; intro g' cap' w' st' hsz bb; have k1' := box_cell st'.o1; have f1' := box_free st'.o1)
            go_roundg (W.length - (k + 1))
            case measure => omega
            case rel =>
              refine ⟨k + 1, cap', some ⟨g', 0, none⟩, _, _, rfl, by omega, rfl, by go_num, Lib.hid (by simp [hel.out]), hd3, hinv2, Lib.hid (st'.put1 _), Lib.hid ?_⟩
              exact (below_tr hb.out bb).setCell (show w.heap.size ≤ w.heap.size + 1 by omega) _
        · obtain rfl : k = W.length := by omega
          have hall : Hid (∀ (j : Nat) (x : ByteArray), W[j]? = some x → okC x = true) := Lib.hid (fun j x hj => hinv.out j x (List.getElem?_eq_some_iff.1 hj).1 hj)
          have hdd : Hid (dats es = W.map rdC) := Lib.hid (by have := hd.out; rwa [List.take_length] at this)
          have hG := HG.out hall.out
          have hF := HF.out hall.out
          rw [← hdd.out] at hG hF
          have htt : tots es ≤ 1048576 := by rw [tots_of_dats rfl]; omega
          have hrd := hst.out.claims.rdn hel.out
          have HP := Lib.hid (c_ProofText A W.length c es wz hrd (by omega) htt (tots_rows htt) (HT.out.below hb.out))
          obtain ⟨t, ok, ho⟩ : ∃ t ok, proofC (dats es) = (t, ok) := ⟨_, _, rfl⟩
          rw [ho] at HP hG
          simp only [tv] at HP hG
          have c1z := box_cell hst.out.o1
          have c0z := box_cell hst.out.o0
          have l0 := cell_lt c0z
          clear HG HF hinv hd hall hF htt hrd ho HB HM hcnt hlt
          cases ok
          · have fin : Hid (m = ([], false)) := Lib.hid (by rw [hG, if_neg (fun h => by cases h.1)])
            clear hG
            go_wp2_with fail
            refine HP.out.mono ?_
            rintro e w2 ⟨rfl, b2⟩
            have S2 := Lib.hid (hst.out.below b2)
            have B2 := Lib.hid (Below.next hb.out b2)
            have k0 := box_cell S2.out.o0
            have f0 := box_free S2.out.o0
            have K0 := Lib.hid k0
            clear c0z c1z b2 hst hb HP
            go_wp2_with fail
            refine bodyPost_ret (res_proof2 _ _ rfl rfl (World.cell?_setCell_same _ _ _ K0.out)) rfl (ProofR.no fin.out rfl ?_)
            exact B2.out.setCell (Nat.le_refl _) _
          · by_cases hts : t = s
            · have fin : Hid (m = (dats es, true)) := Lib.hid (by rw [hG, if_pos ⟨rfl, hts⟩])
              have hz3 := strs_eq hts
              clear hG hts
              go_wp2_with fail
              refine HP.out.mono ?_
              rintro e w2 ⟨rfl, b2⟩
              have S2 := Lib.hid (hst.out.below b2)
              have B2 := Lib.hid (Below.next hb.out b2)
              have k0 := box_cell S2.out.o0
              have f0 := box_free S2.out.o0
              have k1 := box_cell S2.out.o1
              have K0 := Lib.hid k0
              clear c0z c1z b2 hst hb HP
              go_wp2_with fail
              refine bodyPost_ret (res_proof2 _ _ rfl rfl (World.cell?_setCell_same _ _ _ K0.out)) rfl (ProofR.yes fin.out hel.out rfl (S2.out.put0 _) ?_)
              exact B2.out.setCell (Nat.le_refl _) _
            · have fin : Hid (m = ([], false)) := Lib.hid (by rw [hG, if_neg (fun h => hts h.2)])
              have hz3 := strs_ne hts
              clear hG hts
              go_wp2_with fail
              refine HP.out.mono ?_
              rintro e w2 ⟨rfl, b2⟩
              have S2 := Lib.hid (hst.out.below b2)
              have B2 := Lib.hid (Below.next hb.out b2)
              have k0 := box_cell S2.out.o0
              have f0 := box_free S2.out.o0
              have K0 := Lib.hid k0
              clear c0z c1z b2 hst hb HP
              go_wp2_with fail
              refine bodyPost_ret (res_proof2 _ _ rfl rfl (World.cell?_setCell_same _ _ _ K0.out)) rfl (ProofR.no fin.out rfl ?_)
              exact B2.out.setCell (Nat.le_refl _) _
  · have h4I : (4000 : Int) < (s.size : Int) := by omega
    have fin : Hid (m = ([], false)) := Lib.hid (hm.out.symm.trans (readP_long h4))
    clear h4 hm
    go_enter Tryd.func11, Tryd.ntmps11
    go_wp2_with fail
    refine bodyPost_ret (res_proof2 _ _ rfl rfl ?_) rfl (ProofR.no fin.out rfl ?_)
    · simp [go_sem]
    · go_grown
end Go.Proofs.YtcogdogiceokdaaDoor
