/- The walk of the law FnExactReadProof. -/
import Derived.Test.YtcogdogiceokdaaDoorRpH
import Derived.Test.YtcogdogiceokdaaDoorRpG
namespace Go.Proofs.YtcogdogiceokdaaDoor
open Go.RowKit

theorem readP_small (s : ByteArray) : (readP s).1.length ≤ 4001 ∧ (flat (readP s).1).length ≤ 4001 := by
  by_cases h : s.size ≤ 4000 ∧ (wordsB s).all shp = true ∧ told (dsB s) = true ∧ strOfNums (proofT (dsB s)) = s
  · rw [readP_yes h.1 h.2.1 h.2.2.1 h.2.2.2]
    have h1 := wordsB_len s
    have h2 := dsB_flat h.2.1
    have h3 := h.1
    have h4 : (dsB s).length = (wordsB s).length := by unfold dsB; rw [List.length_map]
    simp only
    omega
  · rw [readP_no h]
    exact ⟨Nat.zero_le _, Nat.zero_le _⟩
theorem OwnC.withBox {w : World} {base : Nat} {A : Option Addr} {c : Nat} {es : List El} (h : OwnC w base A c es) (hb : base ≤ w.heap.size) (v : Value) : OwnX (w.alloc (.cells #[v] 30)) base [bItem w.heap.size v] A c es := by
  have h1 := (h.below ((Below.refl _ _).alloc (Nat.le_refl _) (.cells #[v] 30))).all.snoc (it := bItem w.heap.size v) (World.ownsRow_lit w #[v] 1 hb (by decide) rfl) (fun x hx => Apart.lt (fun k hk => ((h.all.own x hx).lt k hk).2) (fun k hk => by
    have := Option.some.inj (show some w.heap.size = some k from hk)
    omega))
  exact ⟨h1.perm List.perm_append_comm, h.fit⟩
theorem OwnX.box {w : World} {base b : Nat} {v : Value} {A : Option Addr} {c : Nat} {es : List El} (h : OwnX w base [bItem b v] A c es) : w.cell? ⟨b, 0, none⟩ = some v := box_cell (h.all.own _ (List.mem_cons_self ..))
theorem fits_of {w : World} {base : Nat} {A : Option Addr} {c : Nat} {es : List El} (h : OwnC w base A c es) : ∀ e ∈ es, e.is.length = 2 ∧ e.rs.length = 2 := h.fit
set_option maxRecDepth 100000 in
set_option maxHeartbeats 3200000 in
theorem w_FnExactReadProof (s : ByteArray) (w : World) (hs : s.size ≤ maxLen) (ht : Tab w) (hv : SynV w) :
    Calls Tryd.prog 4 #[.string s] w fun e w' => e = .returned (.bool true) ∧ Below w.heap.size w w' := by
  unfold maxLen at hs
  by_cases hn : s.size ≤ 1048576
  · have HT := Lib.hid ht
    have HV := Lib.hid hv
    have hsm := readP_small s
    have HS := Lib.hid (fun W => s_ReadProof s W hn)
    have HC := Lib.hid (fun W (hb : Below w.heap.size w W) => c_ReadProof s W hn (HT.out.below hb) (HV.out.below hb))
    generalize readP s = m at *
    obtain ⟨ds, ok⟩ := m
    obtain ⟨n, hdn⟩ : ∃ n, Hid (ds.length = n) := ⟨_, Lib.hid rfl⟩
    have hsm1 : n ≤ 4001 := by rw [← hdn.out]; exact hsm.1
    have HFl := Lib.hid hsm.2
    have HS2 : Hid (∀ W, Calls Tryd.prog 10 #[.string s] W fun e w' => ∃ A c es, e = .returned (.tuple #[.agg #[.slice A n c], .bool ok]) ∧ Hid ((es : List El).length = n ∧ dats es = ds) ∧ Hid (OwnC w' W.heap.size A c es) ∧ Below W.heap.size W w') := Lib.hid (fun W => (HS.out W).mono fun e w' ⟨A, c, es, he, hd, ho, hb⟩ => by
      replace hd : dats es = ds := hd
      have hl : es.length = n := by rw [← hdn.out, ← hd]; simp
      rw [hl] at he
      exact ⟨A, c, es, he, Lib.hid ⟨hl, hd⟩, Lib.hid ho, hb⟩)
    have HC2 : Hid (∀ W, Below w.heap.size w W → Calls Tryd.prog 11 #[.string s] W fun e w' => ∃ A c es, e = .returned (.tuple #[.agg #[.slice A n c], .bool ok]) ∧ Hid ((es : List El).length = n ∧ dats es = ds) ∧ Hid (OwnC w' W.heap.size A c es) ∧ Below W.heap.size W w') := Lib.hid (fun W hb0 => (HC.out W hb0).mono fun e w' ⟨A, c, es, he, hd, ho, hb⟩ => by
      replace hd : dats es = ds := hd
      have hl : es.length = n := by rw [← hdn.out, ← hd]; simp
      rw [hl] at he
      exact ⟨A, c, es, he, Lib.hid ⟨hl, hd⟩, Lib.hid ho, hb⟩)
    have hI : ¬ (1048576 : Int) < (s.size : Int) := by omega
    clear HS HC hsm hs hn ht hv hdn HT HV
    go_enter Tryd.func4, Tryd.ntmps4
    go_wp2_with fail
    refine (HS2.out _).mono ?_
    rintro e w1 ⟨A1, c1, es1, rfl, D1, O1, b1⟩
    have l1 : w.heap.size ≤ w1.heap.size := b1.size
    have B1 : Hid (Below w.heap.size w (w1.alloc (.cells #[.slice A1 n c1] 30))) := Lib.hid (b1.alloc l1 _)
    have R1 : Hid (RdE 2 2 (w1.alloc (.cells #[.slice A1 n c1] 30)) A1 n es1) := Lib.hid ((O1.out.rdn D1.out.1).below ((Below.refl _ _).alloc (Nat.le_refl _) _))
    have tt1 : tots es1 ≤ 4001 := by rw [tots_of_dats D1.out.2]; exact HFl.out
    clear b1 O1 HS2
    go_wp2_with fail
    refine (HC2.out _ B1.out).mono ?_
    rintro e w2 ⟨A2, c2, es2, rfl, D2, O2, b2⟩
    simp only [World.size_alloc] at O2
    have q1 : w2.cell? ⟨w1.heap.size, 0, none⟩ = some (.slice A1 n c1) := bkeep b2 _ _ (by simp [go_sem])
    have l2 : w1.heap.size + 1 ≤ w2.heap.size := by simpa using b2.size
    have m1 : ¬ w1.heap.size = w2.heap.size := by omega
    have m2 : ¬ w2.heap.size = w1.heap.size := by omega
    have tt2 : tots es2 ≤ 4001 := by rw [tots_of_dats D2.out.2]; exact HFl.out
    have hde : Hid (dats es2 = dats es1) := Lib.hid (D2.out.2.trans D1.out.2.symm)
    have FIT := Lib.hid O2.out.fit
    have X2 := Lib.hid (O2.out.withBox l2 (.slice A2 n c2))
    have C2 : Hid (Below (w1.alloc (.cells #[.slice A1 n c1] 30)).heap.size (w1.alloc (.cells #[.slice A1 n c1] 30)) (w2.alloc (.cells #[.slice A2 n c2] 30))) := Lib.hid (b2.alloc (by simpa using l2) _)
    have B2 := Lib.hid (Below.trans B1.out (C2.out.mono B1.out.size))
    have q1a := cell_alloc q1 (.cells #[.slice A2 n c2] 30)
    have l2b : w1.heap.size < w2.heap.size := by omega
    clear b2 O2
    go_wp2_with fail
    refine (c_eqProof A2 A1 c2 c1 es2 es1 n _ (X2.out.claims.rdn D2.out.1) (R1.out.below C2.out) hde.out (by omega) (tots_rows (by omega))).mono ?_
    rintro e w3 ⟨rfl, b3⟩
    have X3 := Lib.hid (X2.out.below b3)
    have C3 := Lib.hid (Below.next C2.out b3)
    have B3 := Lib.hid (Below.next B2.out b3)
    have q1 := bkeep b3 _ _ q1a
    have y5 := X3.out.box
    have l3 : w1.heap.size + 1 ≤ w3.heap.size := by have := C3.out.size; simpa using this
    obtain ⟨R, hR⟩ : ∃ R : Int, Hid (1 + 2 * (n : Int) + (tots es2 : Int) = R) := ⟨_, Lib.hid rfl⟩
    have HM := Lib.hid (c_markProofC A2 c2 n (w1.heap.size + 1) _ es2 1 w3 X3.out l3 D2.out.1 (by omega) (by omega) (by decide) (by decide))
    have hR0 : ¬ R < 0 := by have := hR.out; omega
    rw [hR.out] at HM
    clear b3 X2 C2 B2 X3
    go_wp2_with fail
    refine HM.out.mono ?_
    rintro e w4 ⟨rfl, X4, V4⟩
    have Y4 := Lib.hid X4
    have y5 := Y4.out.box
    have V4' : Below (w1.alloc (.cells #[.slice A1 n c1] 30)).heap.size w3 w4 := by rw [World.size_alloc]; exact V4
    have C4 := Lib.hid (below_tr C3.out V4')
    have B4 := Lib.hid (below_tr B3.out (V4.mono (Nat.le_succ_of_le l1)))
    have q1 : w4.cell? ⟨w1.heap.size, 0, none⟩ = some (.slice A1 n c1) := (V4.cell (p := ⟨w1.heap.size, 0, none⟩) (Nat.lt_succ_self _)).trans q1
    have rd4 := Lib.hid (Y4.out.claims.rdn (show (mkEs 1 es2).length = n by rw [mkEs_len]; exact D2.out.1))
    have HH := Lib.hid (fun W (rd : RdE 2 2 W A2 n (mkEs 1 es2)) => c_heldProofC A2 c2 n es2 1 W rd (by omega) (by omega) FIT.out (by decide) (by decide))
    rw [hR.out] at HH
    clear X4 V4 V4' C3 B3 HM
    go_wp2_with fail
    refine (HH.out _ rd4.out).mono ?_
    rintro e w5 ⟨rfl, b5⟩
    have y5 := bkeep b5 _ _ y5
    have q1 := bkeep b5 _ _ q1
    have C5 := Lib.hid (Below.next C4.out b5)
    have B5 := Lib.hid (Below.next B4.out b5)
    have rd5 := Lib.hid (rd4.out.below b5)
    clear b5 C4 B4 rd4 Y4
    go_wp2_with fail
    refine (HC2.out _ B5.out).mono ?_
    rintro e w6 ⟨A6, c6, es6, rfl, D6, O6, b6⟩
    have y5 := bkeep b6 _ _ y5
    have q1 := bkeep b6 _ _ q1
    have C6 := Lib.hid (Below.next C5.out b6)
    have B6 := Lib.hid (Below.next B5.out b6)
    have rd6 := Lib.hid (rd5.out.below b6)
    have r6 := Lib.hid (O6.out.rdn D6.out.1)
    have tt6 : tots es6 ≤ 4001 := by rw [tots_of_dats D6.out.2]; exact HFl.out
    have hde6 : Hid (dats es6 = dats es1) := Lib.hid (D6.out.2.trans D1.out.2.symm)
    have l6 : w2.heap.size < w6.heap.size := cell_lt y5
    have l7 : w1.heap.size < w6.heap.size := cell_lt q1
    have m3 : ¬ w1.heap.size = w6.heap.size := by omega
    have m4 : ¬ w6.heap.size = w1.heap.size := by omega
    have m5 : ¬ w2.heap.size = w6.heap.size := by omega
    have m6 : ¬ w6.heap.size = w2.heap.size := by omega
    have ba : Hid (Below w6.heap.size w6 (w6.alloc (.cells #[.slice A6 n c6] 30))) := Lib.hid ((Below.refl _ _).alloc (Nat.le_refl _) _)
    have C7 := Lib.hid (Below.next C6.out ba.out)
    have q1a := cell_alloc q1 (.cells #[.slice A6 n c6] 30)
    have y5a := cell_alloc y5 (.cells #[.slice A6 n c6] 30)
    clear b6 C5 B5 rd5 O6
    go_wp2_with fail
    refine (c_eqProof A6 A1 c6 c1 es6 es1 n _ (r6.out.below ba.out) (R1.out.below C7.out) hde6.out (by omega) (tots_rows (by omega))).mono ?_
    rintro e w7 ⟨rfl, b7⟩
    have b67 := Below.next ba.out b7
    have y5 := bkeep b67 _ _ y5
    have B7 := Lib.hid (Below.next B6.out b67)
    have rd7 := Lib.hid (rd6.out.below b67)
    clear b7 b67 ba C7 C6 B6 rd6 r6 q1
    go_wp2_with fail
    refine (HH.out _ rd7.out).mono ?_
    rintro e w8 ⟨rfl, b8⟩
    have B8 := Lib.hid (Below.next B7.out b8)
    go_wp2_with fail
    go_ret
    exact ⟨rfl, B8.out⟩
  · have hI : (1048576 : Int) < (s.size : Int) := by omega
    go_enter Tryd.func4, Tryd.ntmps4
    go_wp2_with fail
    go_ret
    exact ⟨rfl, Below.refl _ _⟩
end Go.Proofs.YtcogdogiceokdaaDoor
