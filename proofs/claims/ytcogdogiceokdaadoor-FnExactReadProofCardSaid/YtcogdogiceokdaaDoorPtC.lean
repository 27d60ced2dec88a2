/- The program's ProofText. -/
import Derived.Test.YtcogdogiceokdaaDoorPtB
namespace Go.Proofs.YtcogdogiceokdaaDoor
open Go.RowKit

theorem useC_snd (ds : List Dat) : (useC ds).2 = shape ds := by
  unfold useC
  split
  · rename_i h; rw [h]
  · rename_i h
    symm
    simpa using h
theorem told_size {ds : List Dat} {k : Nat} (h : 4001 < szT ((ds.take k).map claimT)) : told ds = false := by
  refine told_long ?_
  have h1 := szT_take_le (ds.map claimT) k
  rw [← List.map_take] at h1
  by_cases e : ds = []
  · subst e
    simp [szT] at h
  · have := proofT_len e
    omega
theorem told_all {ds : List Dat} (h1 : shape ds = true) (h2 : ∀ (k : Nat) (d : Dat), ds[k]? = some d → rngD d = true) (h3 : szT (ds.map claimT) ≤ 4001) : told ds = true := by
  refine told_iff.2 ⟨h1, h2, ?_⟩
  by_cases e : ds = []
  · subst e
    exact Nat.zero_le _
  · have := proofT_len e
    omega
theorem claimL_num {n1 n2 n3 n4 : List Int} {a b : Int} {xs ys : List Int} (h1 : numB a = n1) (h2 : numB b = n2) (h3 : numsT xs = n3) (h4 : numsT ys = n4) : n1 ++ [32] ++ n2 ++ [58] ++ n3 ++ [58] ++ n4 = claimL a b xs ys := by
  subst h1 h2 h3 h4
  rfl
set_option maxRecDepth 100000 in
set_option maxHeartbeats 6400000 in
theorem c_ProofText (A : Option Addr) (n c : Nat) (es : List El) (w : World) (rd : RdE 2 2 w A n es) (hn : n ≤ 1048576) (ht : tots es ≤ 1048576) (hl : ∀ e ∈ es, ∀ r ∈ e.rs, r.xs.length ≤ 1048576) (htab : Tab w) :
    Calls Tryd.prog 8 #[.agg #[.slice A n c]] w fun e w' => e = .returned (tv (proofC (dats es))) ∧ Below w.heap.size w w' := by
  have RD := Lib.hid rd
  have HT := Lib.hid htab
  have HL := Lib.hid hl
  have HN : Hid ((dats es).length = n) := Lib.hid (by simpa using rd.len)
  have HU := Lib.hid (fun W (hb : Below w.heap.size w W) => c_UsesOf A n c es W (rd.below hb) hn hl ht)
  clear rd htab hl
  obtain ⟨m, hm⟩ : ∃ m, Hid (proofC (dats es) = m) := ⟨_, Lib.hid rfl⟩
  rw [hm.out]
  obtain ⟨us, ok, hu⟩ : ∃ us ok, useC (dats es) = (us, ok) := ⟨_, _, rfl⟩
  have hsok : shape (dats es) = ok := by rw [← useC_snd, hu]
  rw [hu] at HU
  clear hu
  cases ok
  · have fin : Hid (m = (ByteArray.empty, false)) := Lib.hid (by rw [← hm.out]; exact proofC_no (told_shape hsok))
    clear hsok
    go_enter Tryd.func8, Tryd.ntmps8
    go_wp2_with fail
    refine (HU.out _ (by go_grown)).mono ?_
    rintro e w1 ⟨A', c', rfl, o1, b1⟩
    have B1 : Hid (Below w.heap.size w w1) := Lib.hid (Below.next (by go_grown) b1)
    clear b1 o1
    go_wp2_with fail
    go_ret2
    exact ⟨ret_tv fin.out, B1.out⟩
  · have HS := Lib.hid hsok
    clear hsok
    go_enter Tryd.func8, Tryd.ntmps8
    go_wp2_with fail
    refine (HU.out _ (by go_grown)).mono ?_
    rintro e w1 ⟨A', c', rfl, o1, b1⟩
    have hcA : w1.cell? ⟨w.heap.size, 0, none⟩ = some (.slice A n c) := bkeep b1 _ _ (by simp [go_sem])
    have B1 : Hid (Below w.heap.size w w1) := Lib.hid (Below.next (by go_grown) b1)
    have lA1 : w.heap.size < w1.heap.size := cell_lt hcA
    have nA1 : ¬ w.heap.size = w1.heap.size := by omega
    clear b1 o1 HU
    go_wp2_with fail
    have O0 := Lib.hid (own_litS w1 w.heap.size B1.out.size)
    have B0 : Hid (Below w.heap.size w (w1.alloc (.cells #[] 9))) := Lib.hid (B1.out.alloc B1.out.size _)
    have hs1 := B1.out.size
    go_loopg [6, 7, 22] n (fun mm o s i wx => ∃ (k g cap sz : Nat) (ps : List ByteArray) (wz : World), wz = wx ∧ k ≤ n ∧ mm = n - k ∧ i = .int .i64 k ∧ s = .int .i64 sz ∧ sz ≤ 4001 ∧ o = .slice (some ⟨g, 0, none⟩) k cap ∧
      Hid (wz.ownsRow w.heap.size 9 1 (.slice (some ⟨g, 0, none⟩) k cap) k (ps.map Value.string)) ∧ w.heap.size ≤ g ∧ Hid (Below w.heap.size w wz) ∧ Hid (ps = (((dats es).take k).map claimT).map strOfNums) ∧ Hid (szT (((dats es).take k).map claimT) = sz) ∧
      Hid (∀ (j : Nat) (d : Dat), j < k → (dats es)[j]? = some d → rngD d = true))
    case atStart => exact ⟨0, w1.heap.size, 0, 0, [], _, rfl, Nat.zero_le _, rfl, rfl, rfl, by omega, rfl, O0, by omega, B0, Lib.hid rfl, Lib.hid rfl, Lib.hid (fun j d hj => by omega)⟩
    case round =>
      obtain ⟨k, g, cap, sz, ps, wz, rfl, hk, rfl, rfl, rfl, hsz, rfl, hown, hgw, hb, hps, hszT, hinv⟩ := hrel
      clear O0 B0
      by_cases hlt : k < n
      · have hltI : (k : Int) < (n : Int) := by omega
        obtain ⟨b, off, i1, i2, A1, c1, xs, A2, c2, ys, rfl, _, he, r1, r2, q0, q1, q2, q3⟩ := (RD.out.below hb.out).claim hlt
        have D1 := Lib.hid (dat_claim he)
        have hsm := shape_small HS.out D1.out
        clear he
        have hcase : (i1 < 0 ∧ Hid (m = (ByteArray.empty, false))) ∨ (¬ i1 < 0 ∧ 120 ≤ i1 ∧ Hid (m = (ByteArray.empty, false))) ∨ (¬ i1 < 0 ∧ ¬ 120 ≤ i1 ∧ i2 < 0 ∧ Hid (m = (ByteArray.empty, false))) ∨ (¬ i1 < 0 ∧ ¬ 120 ≤ i1 ∧ ¬ i2 < 0 ∧ 120 ≤ i2 ∧ Hid (m = (ByteArray.empty, false))) ∨
            (¬ i1 < 0 ∧ ¬ 120 ≤ i1 ∧ ¬ i2 < 0 ∧ ¬ 120 ≤ i2 ∧ 4000 < (xs.length : Int) ∧ Hid (m = (ByteArray.empty, false))) ∨ (¬ i1 < 0 ∧ ¬ 120 ≤ i1 ∧ ¬ i2 < 0 ∧ ¬ 120 ≤ i2 ∧ ¬ 4000 < (xs.length : Int) ∧ 4000 < (ys.length : Int) ∧ Hid (m = (ByteArray.empty, false))) ∨
            (¬ i1 < 0 ∧ ¬ 120 ≤ i1 ∧ ¬ i2 < 0 ∧ ¬ 120 ≤ i2 ∧ ¬ 4000 < (xs.length : Int) ∧ ¬ 4000 < (ys.length : Int)) := by
          have no1 : inB i1 0 119 = false → Hid (m = (ByteArray.empty, false)) := fun h => Lib.hid (by rw [← hm.out]; exact proofC_no (told_rng D1.out (rng_no1 h)))
          have no2 : inB i2 0 119 = false → Hid (m = (ByteArray.empty, false)) := fun h => Lib.hid (by rw [← hm.out]; exact proofC_no (told_rng D1.out (rng_no2 h)))
          have nol : 4000 < xs.length ∨ 4000 < ys.length → Hid (m = (ByteArray.empty, false)) := fun h => Lib.hid (by
            rw [← hm.out]
            refine proofC_no (told_long ?_)
            have h1 := proofT_claim D1.out
            rw [claimT_eq] at h1
            have h2 := claimL_long (a := i1) (b := i2) hsm.1 hsm.2 h
            omega)
          by_cases g1 : i1 < 0
          · exact .inl ⟨g1, no1 (inB_false.2 (.inl g1))⟩
          · by_cases g2 : 120 ≤ i1
            · exact .inr (.inl ⟨g1, g2, no1 (inB_false.2 (.inr (by omega)))⟩)
            · by_cases g3 : i2 < 0
              · exact .inr (.inr (.inl ⟨g1, g2, g3, no2 (inB_false.2 (.inl g3))⟩))
              · by_cases g4 : 120 ≤ i2
                · exact .inr (.inr (.inr (.inl ⟨g1, g2, g3, g4, no2 (inB_false.2 (.inr (by omega)))⟩)))
                · by_cases g5 : 4000 < (xs.length : Int)
                  · exact .inr (.inr (.inr (.inr (.inl ⟨g1, g2, g3, g4, g5, nol (.inl (by omega))⟩))))
                  · by_cases g6 : 4000 < (ys.length : Int)
                    · exact .inr (.inr (.inr (.inr (.inr (.inl ⟨g1, g2, g3, g4, g5, g6, nol (.inr (by omega))⟩)))))
                    · exact .inr (.inr (.inr (.inr (.inr (.inr ⟨g1, g2, g3, g4, g5, g6⟩)))))
        have Bx : Hid (∀ o, Below w.heap.size w (wz.alloc o)) := Lib.hid (fun o => hb.out.alloc hb.out.size _)
        rcases hcase with ⟨g1, fin⟩ | ⟨g1, g2, fin⟩ | ⟨g1, g2, g3, fin⟩ | ⟨g1, g2, g3, g4, fin⟩ | ⟨g1, g2, g3, g4, g5, fin⟩ | ⟨g1, g2, g3, g4, g5, g6, fin⟩ | ⟨g1, g2, g3, g4, g5, g6⟩
        · clear hown hb hps hszT hinv hsm r1 r2
          go_wp2_with fail
          go_ret2
          exact ⟨ret_tv fin.out, Bx.out _⟩
        · clear hown hb hps hszT hinv hsm r1 r2
          go_wp2_with fail
          go_ret2
          exact ⟨ret_tv fin.out, Bx.out _⟩
        · clear hown hb hps hszT hinv hsm r1 r2
          go_wp2_with fail
          go_ret2
          exact ⟨ret_tv fin.out, Bx.out _⟩
        · clear hown hb hps hszT hinv hsm r1 r2
          go_wp2_with fail
          go_ret2
          exact ⟨ret_tv fin.out, Bx.out _⟩
        · clear hown hb hps hszT hinv hsm r1 r2
          go_wp2_with fail
          go_ret2
          exact ⟨ret_tv fin.out, Bx.out _⟩
        · clear hown hb hps hszT hinv hsm r1 r2
          go_wp2_with fail
          go_ret2
          exact ⟨ret_tv fin.out, Bx.out _⟩
        have hrg := Lib.hid (rng_yes (i1 := i1) (i2 := i2) (L := [xs, ys]) (inB_true.2 ⟨by omega, by omega⟩) (inB_true.2 ⟨by omega, by omega⟩))
        have hclaim := szT_take (ts := (dats es).map claimT) (k := k) (x := claimT ([i1, i2], [xs, ys])) (by rw [List.getElem?_map, D1.out]; rfl)
        rw [← List.map_take (f := claimT), ← List.map_take (f := claimT), hszT.out, claimT_eq] at hclaim
        have hps2 : Hid (ps ++ [strOfNums (claimL i1 i2 xs ys)] = (((dats es).take (k + 1)).map claimT).map strOfNums) := Lib.hid (by rw [map_snoc claimT D1.out, List.map_append, ← hps.out, claimT_eq]; rfl)
        have hinv2 : Hid (∀ (j : Nat) (d : Dat), j < k + 1 → (dats es)[j]? = some d → rngD d = true) := Lib.hid (fun j d hj hd => by
          by_cases e : j = k
          · subst e
            rw [D1.out] at hd
            cases hd
            exact hrg.out
          · exact hinv.out j d (by omega) hd)
        have l0 := claimL_len (a := i1) (b := i2) ⟨by omega, by omega⟩ ⟨by omega, by omega⟩ hsm.1 hsm.2
        have l1 := numB_len3 (n := i1) (by omega) (by omega)
        have l2 := numB_len3 (n := i2) (by omega) (by omega)
        have l3 := (numsT_len hsm.1).1
        have l4 := (numsT_len hsm.2).1
        have hz2 : Hid (szT (((dats es).take (k + 1)).map claimT) = sz + ((claimL i1 i2 xs ys).length + 1)) := Lib.hid hclaim
        clear hps hinv hszT hrg hclaim
        go_upto_region 11 with fail
        have k0 : (wz.alloc (.cells #[.int .i64 i1, .int .i64 i2, .slice A1 xs.length c1, .slice A2 ys.length c2] 47)).cell? ⟨wz.heap.size, 0, none⟩ = some (.int .i64 i1) := by simp [go_sem]
        have k1 : (wz.alloc (.cells #[.int .i64 i1, .int .i64 i2, .slice A1 xs.length c1, .slice A2 ys.length c2] 47)).cell? ⟨wz.heap.size, 1, none⟩ = some (.int .i64 i2) := by simp [go_sem]
        have k2 : (wz.alloc (.cells #[.int .i64 i1, .int .i64 i2, .slice A1 xs.length c1, .slice A2 ys.length c2] 47)).cell? ⟨wz.heap.size, 2, none⟩ = some (.slice A1 xs.length c1) := by simp [go_sem]
        have k3 : (wz.alloc (.cells #[.int .i64 i1, .int .i64 i2, .slice A1 xs.length c1, .slice A2 ys.length c2] 47)).cell? ⟨wz.heap.size, 3, none⟩ = some (.slice A2 ys.length c2) := by simp [go_sem]
        have ba := Lib.hid ((Below.refl wz.heap.size wz).alloc (Nat.le_refl _) (.cells #[.int .i64 i1, .int .i64 i2, .slice A1 xs.length c1, .slice A2 ys.length c2] 47))
        generalize wz.alloc (.cells #[.int .i64 i1, .int .i64 i2, .slice A1 xs.length c1, .slice A2 ys.length c2] 47) = wa at *
        have Ba := Lib.hid (Below.next hb.out ba.out)
        have I1 := Lib.hid (fun (W : World) (hb : Below wa.heap.size wa W) => c_Itoa i1 W ((HT.out.below Ba.out).below hb) (by omega) (by omega))
        have I2 := Lib.hid (fun (W : World) (hb : Below wa.heap.size wa W) => c_Itoa i2 W ((HT.out.below Ba.out).below hb) (by omega) (by omega))
        have J1 := Lib.hid (fun (W : World) (hb : Below wa.heap.size wa W) => c_numbersText A1 c1 xs W ((r1.below ba.out).below hb) (by omega) hsm.1 ((HT.out.below Ba.out).below hb))
        have J2 := Lib.hid (fun (W : World) (hb : Below wa.heap.size wa W) => c_numbersText A2 c2 ys W ((r2.below ba.out).below hb) (by omega) hsm.2 ((HT.out.below Ba.out).below hb))
        obtain ⟨CL, hCL⟩ : ∃ CL, claimL i1 i2 xs ys = CL := ⟨_, rfl⟩
        rw [hCL] at hps2 hz2 l0
        have hCL2 : numB i1 ++ [32] ++ numB i2 ++ [58] ++ numsT xs ++ [58] ++ numsT ys = CL := by rw [← hCL]; rfl
        have HB := Lib.hid hb.out
        clear hCL hsm r1 r2 hb
        generalize numB i1 = n1 at *
        generalize numB i2 = n2 at *
        generalize numsT xs = n3 at *
        generalize numsT ys = n4 at *
        have a1 := fun w => run_str_add (P := Tryd.prog) n1 [32] w (by simp; omega)
        rw [show strOfNums [32] = ⟨#[32]⟩ from rfl] at a1
        obtain ⟨U1, h1⟩ : ∃ U, U = n1 ++ [32] := ⟨_, rfl⟩
        rw [← h1] at a1 hCL2
        have u1 := congrArg List.length h1
        simp only [List.length_append, List.length_singleton] at u1
        have a2 := fun w => run_str_add (P := Tryd.prog) U1 n2 w (by omega)
        obtain ⟨U2, h2⟩ : ∃ U, U = U1 ++ n2 := ⟨_, rfl⟩
        rw [← h2] at a2 hCL2
        have u2 := congrArg List.length h2
        simp only [List.length_append] at u2
        have a3 := fun w => run_str_add (P := Tryd.prog) U2 [58] w (by simp; omega)
        rw [show strOfNums [58] = ⟨#[58]⟩ from rfl] at a3
        obtain ⟨U3, h3⟩ : ∃ U, U = U2 ++ [58] := ⟨_, rfl⟩
        rw [← h3] at a3 hCL2
        have u3 := congrArg List.length h3
        simp only [List.length_append, List.length_singleton] at u3
        have a4 := fun w => run_str_add (P := Tryd.prog) U3 n3 w (by omega)
        obtain ⟨U4, h4⟩ : ∃ U, U = U3 ++ n3 := ⟨_, rfl⟩
        rw [← h4] at a4 hCL2
        have u4 := congrArg List.length h4
        simp only [List.length_append] at u4
        have a5 := fun w => run_str_add (P := Tryd.prog) U4 [58] w (by simp; omega)
        rw [show strOfNums [58] = ⟨#[58]⟩ from rfl] at a5
        obtain ⟨U5, h5⟩ : ∃ U, U = U4 ++ [58] := ⟨_, rfl⟩
        rw [← h5] at a5 hCL2
        have u5 := congrArg List.length h5
        simp only [List.length_append, List.length_singleton] at u5
        have a6 := fun w => run_str_add (P := Tryd.prog) U5 n4 w (by omega)
        rw [hCL2] at a6
        clear hCL2 h1 h2 h3 h4 h5 u1 u2 u3 u4 u5 l1 l2 l3 l4 g1 g2 g3 g4
        go_cut [10] (fun v wx => ∃ wy, wy = wx ∧ v = .string (strOfNums CL) ∧ Hid (Below wa.heap.size wa wy))
        case first =>
          go_region_held3 (fun w' => w'.cell? ⟨wz.heap.size, 0, none⟩ = some (.int .i64 i1) ∧ w'.cell? ⟨wz.heap.size, 1, none⟩ = some (.int .i64 i2) ∧ w'.cell? ⟨wz.heap.size, 2, none⟩ = some (.slice A1 xs.length c1) ∧ w'.cell? ⟨wz.heap.size, 3, none⟩ = some (.slice A2 ys.length c2) ∧ Below wa.heap.size wa w')
            (first | (refine ⟨?_, ?_, ?_, ?_, ?_⟩ <;> first | go_keep | exact (Below.refl _ _).drew | exact Below.next (And.right (And.right (And.right (And.right (by assumption))))) (by assumption)))
            (first
              | (go_at_call_of 19 i1; refine (I1.out _ (And.right (And.right (And.right (And.right (by assumption)))))).mono ?_; rintro e w' ⟨rfl, b⟩; have hk := bkeep b)
              | (go_at_call_of 19 i2; refine (I2.out _ (And.right (And.right (And.right (And.right (by assumption)))))).mono ?_; rintro e w' ⟨rfl, b⟩; have hk := bkeep b)
              | (go_at_call_of 20 A1; refine (J1.out _ (And.right (And.right (And.right (And.right (by assumption)))))).mono ?_; rintro e w' ⟨rfl, b⟩; have hk := bkeep b)
              | (go_at_call_of 20 A2; refine (J2.out _ (And.right (And.right (And.right (And.right (by assumption)))))).mono ?_; rintro e w' ⟨rfl, b⟩; have hk := bkeep b))
          all_goals
            go_wp2_with fail
            go_meet
            case rel => exact ⟨_, rfl, rfl, Lib.hid (And.right (And.right (And.right (And.right (by assumption)))))⟩
        case rest =>
          obtain ⟨wy, rfl, rfl, by_⟩ := hcut
          have By := Lib.hid (Below.next Ba.out by_.out)
          have hown1 := own_below (own_below hown.out ba.out) by_.out
          have tsz : (strOfNums CL).size = CL.length := strOfNums_size CL
          have hB : w.heap.size ≤ wy.heap.size := By.out.size
          clear k0 k1 k2 k3 a1 a2 a3 a4 a5 a6 I1 I2 J1 J2 HB ba Ba by_ hown
          generalize strOfNums CL = t at *
          by_cases h4 : sz + (t.size + 1) ≤ 4001
          · have h4I : ¬ 4001 < (sz : Int) + ((t.size : Int) + 1) := by omega
            go_wp2_with (at_builtin; refine app1 _ 45 9 (.string ⟨#[]⟩) 16 Tryd.underlying45 hI_str rfl rfl (.tmp 81) (.tmp 83) rfl w.heap.size _ _ _ rfl hown1 (.string t) rfl rfl (by omega) (by omega) hB ?_; intro g' cap' w' h1 h2 h3)
            go_roundg (n - (k + 1))
            case measure => omega
            case rel =>
              refine ⟨k + 1, g', cap', sz + (t.size + 1), ps ++ [t], _, rfl, by omega, rfl, by go_num, by go_num, h4, rfl, Lib.hid ?_, ?_, Lib.hid (By.out.grown h2 hB (by intro q hq; have := Option.some.inj (show some g = some q from hq); omega)), hps2, Lib.hid (by rw [hz2.out, tsz]), hinv2⟩
              · rw [List.map_append]; exact h1
              · rcases h3 with h3 | h3
                · have := Option.some.inj (show some g = some g' from h3); omega
                · omega
          · have h4I : 4001 < (sz : Int) + ((t.size : Int) + 1) := by omega
            have fin : Hid (m = (ByteArray.empty, false)) := Lib.hid (by rw [← hm.out]; exact proofC_no (told_size (k := k + 1) (by rw [hz2.out, ← tsz]; omega)))
            go_wp2_with fail
            go_ret2
            exact ⟨ret_tv fin.out, By.out⟩
      · obtain rfl : k = n := by omega
        have hsT : szT ((dats es).map claimT) = sz := by have := hszT.out; rwa [List.take_of_length_le (by rw [HN.out]; exact Nat.le_refl _)] at this
        have hto := told_all HS.out (fun j d hd => hinv.out j d (by have := (List.getElem?_eq_some_iff.1 hd).1; rw [HN.out] at this; exact this) hd) (by rw [hsT]; exact hsz)
        have fin : Hid (m = (strOfNums (proofT (dats es)), true)) := Lib.hid (by rw [← hm.out]; exact proofC_yes hto)
        have hps1 : ps = ((dats es).map claimT).map strOfNums := by have := hps.out; rwa [List.take_of_length_le (by rw [HN.out]; exact Nat.le_refl _)] at this
        have hpl : Hid (ps.length = k) := Lib.hid (by rw [hps1, List.length_map, List.length_map, HN.out])
        have hj : _ = strOfNums (proofT (dats es)) := join_eq 59 hps1
        have hjl := join_eq_len 59 hps1
        have hjn := (told_iff.1 hto).2.2
        have HJ := Tryd.strings_Join g 0 cap ps (strOfNums [59]) wz (own_cells hown.out) (hown.out.lt g rfl).2 (by rw [hpl.out]; omega) (by rw [hpl.out]; exact own_len_cap hown.out) (by rw [hjl]; unfold proofT at hjn; omega)
        rw [hj, hpl.out] at HJ
        have HJ := Lib.hid HJ
        clear hj hjl hjn hps1 hps hpl hto hsT
        go_wp2_with fail
        refine HJ.out.mono ?_
        rintro e w1 ⟨rfl, b1⟩
        have B1 := Lib.hid (Below.next hb.out b1)
        clear b1
        go_wp2_with fail
        go_ret2
        exact ⟨ret_tv fin.out, B1.out⟩
end Go.Proofs.YtcogdogiceokdaaDoor
