/- The reference's ProofText. -/
import Derived.Test.YtcogdogiceokdaaDoorPtA
import Derived.Test.YtcogdogiceokdaaDoorFmK
namespace Go.Proofs.YtcogdogiceokdaaDoor
open Go.RowKit

theorem proofT_take_le (ds : List Dat) (k : Nat) : (proofT (ds.take k)).length ≤ (proofT ds).length := by
  rcases Nat.eq_zero_or_pos k with e | e
  · subst e
    exact Nat.zero_le _
  · obtain ⟨j, rfl⟩ : ∃ j, k = j + 1 := ⟨k - 1, by omega⟩
    by_cases h : j < ds.length
    · exact proofT_take_len h
    · rw [List.take_of_length_le (by omega)]
      exact Nat.le_refl _
/-- What the reference's text says. -/
def TextR (ds : List Dat) (T : List Int) : Prop := T = proofT ds ∨ (4000 < T.length ∧ 4000 < (proofT ds).length)
theorem TextR.told {ds : List Dat} {T : List Int} (h : TextR ds T) (ht : told ds = true) : T = proofT ds := by
  rcases h with h | h
  · exact h
  · have := (told_iff.1 ht).2.2
    omega
theorem tots_two {es : List El} {k : Nat} {i1 i2 : Int} {A1 A2 : Option Addr} {c1 c2 : Nat} {xs ys : List Int} (h : es[k]? = some ⟨[i1, i2], [⟨A1, c1, xs⟩, ⟨A2, c2, ys⟩]⟩) : xs.length + ys.length ≤ tots es := by
  have := tots_mem (List.mem_of_getElem? h)
  simpa [El.tot] using this
theorem rng_two {i1 i2 : Int} {L : List (List Int)} (h : rngD ([i1, i2], L) = true) : (0 ≤ i1 ∧ i1 ≤ 119) ∧ (0 ≤ i2 ∧ i2 ≤ 119) := by
  unfold rngD at h
  rw [Bool.and_eq_true] at h
  exact ⟨inB_true.1 h.1, inB_true.1 h.2⟩
theorem size_le {T : List Int} (h : T.length ≤ 4000) : ((strOfNums T).size : Int) ≤ 4000 := by rw [strOfNums_size]; omega
theorem size_gt {T : List Int} (h : ¬ T.length ≤ 4000) : (4000 : Int) < ((strOfNums T).size : Int) := by rw [strOfNums_size]; omega
set_option maxRecDepth 100000 in
set_option maxHeartbeats 3200000 in
theorem s_l15Text (A : Option Addr) (n c : Nat) (es : List El) (w : World) (rd : RdE 2 2 w A n es) (hn : n ≤ 1048576) (ht : tots es ≤ 1048576) (hs : shape (dats es) = true) (hr : ∀ (k : Nat) (d : Dat), (dats es)[k]? = some d → rngD d = true) :
    Calls Tryd.prog 16 #[.agg #[.slice A n c]] w fun e w' => ∃ T, e = .returned (.string (strOfNums T)) ∧ TextR (dats es) T ∧ Below w.heap.size w w' := by
  have RD := Lib.hid rd
  have HS := Lib.hid hs
  have HR := Lib.hid hr
  have HN : Hid ((dats es).length = n) := Lib.hid (by simpa using rd.len)
  clear rd hs hr
  go_enter Tryd.func16, Tryd.ntmps16
  go_wp2_with fail
  have B0 : Hid (Below w.heap.size w (w.alloc (.cells #[.slice A n c] 30))) := Lib.hid (by go_grown)
  go_loopg [3, 4] n (fun mm o i wx => ∃ (k : Nat) (T : List Int) (wz : World), wz = wx ∧ k ≤ n ∧ mm = n - k ∧ i = .int .i64 k ∧ o = .string (strOfNums T) ∧ T.length ≤ 5000000 ∧ wz.cell? ⟨w.heap.size, 0, none⟩ = some (.slice A n c) ∧ Hid (Below w.heap.size w wz) ∧ Hid (T = proofT ((dats es).take k)))
  case atStart => exact ⟨0, [], _, rfl, Nat.zero_le _, rfl, rfl, rfl, by simp, by simp [go_sem], B0, Lib.hid rfl⟩
  case round =>
    obtain ⟨k, T, wz, rfl, hk, rfl, rfl, rfl, hT, hcA, hb, hTe⟩ := hrel
    clear B0
    by_cases hlt : k < n
    · have hltI : (k : Int) < (n : Int) := by omega
      by_cases h4 : T.length ≤ 4000
      · have h4I := size_le h4
        obtain ⟨b, off, i1, i2, A1, c1, xs, A2, c2, ys, rfl, _, he, r1, r2, q0, q1, q2, q3⟩ := (RD.out.below hb.out).claim hlt
        have D1 := Lib.hid (dat_claim he)
        have hsm := shape_small HS.out D1.out
        have hrg := rng_two (HR.out k _ D1.out)
        have htt := Nat.le_trans (tots_two he) ht
        have N1 := Lib.hid (fun (m : Nat) (w : World) => Q.quiet (n := m) (s_l1Num i1 (w.drewN m) (by omega) (by omega)))
        have N2 := Lib.hid (fun (m : Nat) (w : World) => Q.quiet (n := m) (s_l1Num i2 (w.drewN m) (by omega) (by omega)))
        have L1 := Lib.hid (fun (W : World) (hb : Below wz.heap.size wz W) (m : Nat) => Q.quiet (n := m) (s_l15Numbers A1 c1 xs (W.drewN m) (RdI.q (r1.below hb) ⟨m, rfl⟩) (by omega) hsm.1))
        have L2 := Lib.hid (fun (W : World) (hb : Below wz.heap.size wz W) (m : Nat) => Q.quiet (n := m) (s_l15Numbers A2 c2 ys (W.drewN m) (RdI.q (r2.below hb) ⟨m, rfl⟩) (by omega) hsm.2))
        have l1 := numB_len3 hrg.1.1 (show i1 < 1000 by omega)
        have l2 := numB_len3 hrg.2.1 (show i2 < 1000 by omega)
        have l3 := (numsT_len hsm.1).1
        have l4 := (numsT_len hsm.2).1
        obtain ⟨T1, hT1, hT1l⟩ : ∃ T1 : List Int, Hid ((0 < k → T1 = T ++ [59]) ∧ (¬ 0 < k → T1 = T)) ∧ T1.length ≤ 4001 := by
          by_cases e : 0 < k
          · exact ⟨T ++ [59], Lib.hid ⟨fun _ => rfl, fun h => absurd e h⟩, by simp; omega⟩
          · exact ⟨T, Lib.hid ⟨fun h => absurd h e, fun _ => rfl⟩, by omega⟩
        have hT2 : Hid (T1 ++ numB i1 ++ [32] ++ numB i2 ++ [58] ++ numsT xs ++ [58] ++ numsT ys = proofT ((dats es).take (k + 1))) := Lib.hid (by
          by_cases e : 0 < k
          · rw [proofT_take D1.out e, hT1.out.1 e, hTe.out, claimT_eq]
            simp only [claimL, List.append_assoc]
          · have e0 : k = 0 := by omega
            have hT0 := hTe.out
            subst e0
            rw [proofT_take0 D1.out, hT1.out.2 e, hT0, claimT_eq]
            rfl)
        clear hTe he hsm hrg r1 r2
        generalize numB i1 = n1 at *
        generalize numB i2 = n2 at *
        generalize numsT xs = n3 at *
        generalize numsT ys = n4 at *
        have a1 := fun w => run_str_add (P := Tryd.prog) T1 n1 w (by omega)
        obtain ⟨U1, h1⟩ : ∃ U, U = T1 ++ n1 := ⟨_, rfl⟩
        rw [← h1] at a1 hT2
        have u1 := congrArg List.length h1
        simp only [List.length_append] at u1
        have a2 := fun w => run_str_add (P := Tryd.prog) U1 [32] w (by simp; omega)
        rw [show strOfNums [32] = ⟨#[32]⟩ from rfl] at a2
        obtain ⟨U2, h2⟩ : ∃ U, U = U1 ++ [32] := ⟨_, rfl⟩
        rw [← h2] at a2 hT2
        have u2 := congrArg List.length h2
        simp only [List.length_append, List.length_singleton] at u2
        have a3 := fun w => run_str_add (P := Tryd.prog) U2 n2 w (by omega)
        obtain ⟨U3, h3⟩ : ∃ U, U = U2 ++ n2 := ⟨_, rfl⟩
        rw [← h3] at a3 hT2
        have u3 := congrArg List.length h3
        simp only [List.length_append] at u3
        have a4 := fun w => run_str_add (P := Tryd.prog) U3 [58] w (by simp; omega)
        rw [show strOfNums [58] = ⟨#[58]⟩ from rfl] at a4
        obtain ⟨U4, h4'⟩ : ∃ U, U = U3 ++ [58] := ⟨_, rfl⟩
        rw [← h4'] at a4 hT2
        have u4 := congrArg List.length h4'
        simp only [List.length_append, List.length_singleton] at u4
        have a5 := fun w => run_str_add (P := Tryd.prog) U4 n3 w (by omega)
        obtain ⟨U5, h5⟩ : ∃ U, U = U4 ++ n3 := ⟨_, rfl⟩
        rw [← h5] at a5 hT2
        have u5 := congrArg List.length h5
        simp only [List.length_append] at u5
        have a6 := fun w => run_str_add (P := Tryd.prog) U5 [58] w (by simp; omega)
        rw [show strOfNums [58] = ⟨#[58]⟩ from rfl] at a6
        obtain ⟨U6, h6⟩ : ∃ U, U = U5 ++ [58] := ⟨_, rfl⟩
        rw [← h6] at a6 hT2
        have u6 := congrArg List.length h6
        simp only [List.length_append, List.length_singleton] at u6
        have a7 := fun w => run_str_add (P := Tryd.prog) U6 n4 w (by omega)
        obtain ⟨U7, h7⟩ : ∃ U, U = U6 ++ n4 := ⟨_, rfl⟩
        rw [← h7] at a7 hT2
        have u7 := congrArg List.length h7
        simp only [List.length_append] at u7
        have hU7 : U7.length ≤ 5000000 := by omega
        clear h1 h2 h3 h4' h5 h6 h7 u1 u2 u3 u4 u5 u6 u7 l1 l2 l3 l4
        by_cases hk0 : 0 < k
        · have hk0I : (0 : Int) < (k : Int) := by omega
          have a0 := fun w => run_str_add (P := Tryd.prog) T [59] w (by simp; omega)
          rw [show strOfNums [59] = ⟨#[59]⟩ from rfl, ← hT1.out.1 hk0] at a0
          clear hT1
          go_upto_region 8 with fail
          go_quiet ((first
            | (go_at_call_of 33 i1; exact N1.out _ _)
            | (go_at_call_of 33 i2; exact N2.out _ _)
            | (go_at_call_of 34 A1; exact L1.out _ (by go_grown) _)
            | (go_at_call_of 34 A2; exact L2.out _ (by go_grown) _)))
          go_wp2_with fail
          go_roundg (n - (k + 1))
          case measure => omega
          case rel => exact ⟨k + 1, U7, _, rfl, by omega, rfl, by go_num, rfl, hU7, by go_keep, Lib.hid (Below.next hb.out (Below.next ((Below.refl wz.heap.size wz).alloc (Nat.le_refl _) _) ((Q.refl _).drew _).below)), hT2⟩
        · have hk0I : ¬ (0 : Int) < (k : Int) := by omega
          have e1 := hT1.out.2 hk0
          subst e1
          clear hT1
          go_upto_region 8 with fail
          go_quiet ((first
            | (go_at_call_of 33 i1; exact N1.out _ _)
            | (go_at_call_of 33 i2; exact N2.out _ _)
            | (go_at_call_of 34 A1; exact L1.out _ (by go_grown) _)
            | (go_at_call_of 34 A2; exact L2.out _ (by go_grown) _)))
          go_wp2_with fail
          go_roundg (n - (k + 1))
          case measure => omega
          case rel => exact ⟨k + 1, U7, _, rfl, by omega, rfl, by go_num, rfl, hU7, by go_keep, Lib.hid (Below.next hb.out (Below.next ((Below.refl wz.heap.size wz).alloc (Nat.le_refl _) _) ((Q.refl _).drew _).below)), hT2⟩
      · have h4I := size_gt h4
        have fin : TextR (dats es) T := .inr ⟨by omega, by
          have := proofT_take_le (dats es) k
          rw [← hTe.out] at this
          omega⟩
        go_wp2_with fail
        go_ret
        exact ⟨T, rfl, fin, hb.out⟩
    · obtain rfl : k = n := by omega
      have fin : TextR (dats es) T := .inl (by
        have := hTe.out
        rwa [List.take_of_length_le (by rw [HN.out]; exact Nat.le_refl _)] at this)
      go_wp2_with fail
      go_ret
      exact ⟨T, rfl, fin, hb.out⟩
theorem told_eq {ds : List Dat} (h1 : shape ds = true) (h2 : ∀ (k : Nat) (d : Dat), ds[k]? = some d → rngD d = true) {T : List Int} (h : TextR ds T) : told ds = decide (T.length ≤ 4000) := by
  by_cases hl : T.length ≤ 4000
  · rw [decide_eq_true hl]
    rcases h with h | h
    · exact told_iff.2 ⟨h1, h2, by rw [← h]; exact hl⟩
    · omega
  · rw [decide_eq_false hl]
    rcases h with h | h
    · exact told_long (by rw [← h]; omega)
    · exact told_long h.2
theorem rng_no1 {i1 i2 : Int} {L : List (List Int)} (h : inB i1 0 119 = false) : rngD ([i1, i2], L) = false := by
  show (inB i1 0 119 && inB i2 0 119) = false
  rw [h]; rfl
theorem rng_no2 {i1 i2 : Int} {L : List (List Int)} (h : inB i2 0 119 = false) : rngD ([i1, i2], L) = false := by
  show (inB i1 0 119 && inB i2 0 119) = false
  rw [h, Bool.and_false]
theorem rng_yes {i1 i2 : Int} {L : List (List Int)} (h : inB i1 0 119 = true) (h' : inB i2 0 119 = true) : rngD ([i1, i2], L) = true := by
  show (inB i1 0 119 && inB i2 0 119) = true
  rw [h, h']; rfl
set_option maxRecDepth 100000 in
set_option maxHeartbeats 3200000 in
theorem s_l15Told (A : Option Addr) (n c : Nat) (es : List El) (w : World) (rd : RdE 2 2 w A n es) (hn : n ≤ 1048576) (ht : tots es ≤ 1048576) (hl : ∀ e ∈ es, ∀ r ∈ e.rs, r.xs.length ≤ 1048576) :
    Calls Tryd.prog 15 #[.agg #[.slice A n c]] w fun e w' => e = .returned (.bool (told (dats es))) ∧ Below w.heap.size w w' := by
  have RD := Lib.hid rd
  have HN : Hid ((dats es).length = n) := Lib.hid (by simpa using rd.len)
  have HSh := Lib.hid (fun W (hb : Below w.heap.size w W) => s_l15Shape A n c es W (rd.below hb) hn hl)
  have HTx := Lib.hid (fun W (hb : Below w.heap.size w W) => s_l15Text A n c es W (rd.below hb) hn ht)
  obtain ⟨z, hz⟩ : ∃ z, Hid (told (dats es) = z) := ⟨_, Lib.hid rfl⟩
  rw [hz.out]
  clear rd hl ht
  cases hsh : shape (dats es)
  · have hzf : z = false := by rw [← hz.out]; exact told_shape hsh
    subst hzf
    rw [hsh] at HSh
    clear hsh HTx
    go_enter Tryd.func15, Tryd.ntmps15
    go_wp2_with fail
    refine (HSh.out _ (by go_grown)).mono ?_
    rintro e w1 ⟨rfl, b1⟩
    have B1 : Hid (Below w.heap.size w w1) := Lib.hid (Below.next (by go_grown) b1)
    clear b1
    go_wp2_with fail
    go_ret
    exact ⟨rfl, B1.out⟩
  · have HS := Lib.hid hsh
    rw [hsh] at HSh
    clear hsh
    go_enter Tryd.func15, Tryd.ntmps15
    go_wp2_with fail
    refine (HSh.out _ (by go_grown)).mono ?_
    rintro e w1 ⟨rfl, b1⟩
    have hcA : w1.cell? ⟨w.heap.size, 0, none⟩ = some (.slice A n c) := bkeep b1 _ _ (by simp [go_sem])
    have B1 : Hid (Below w.heap.size w w1) := Lib.hid (Below.next (by go_grown) b1)
    clear b1 HSh
    go_wp2_with fail
    go_loopg [3] n (fun mm i wx => ∃ (k : Nat) (wz : World), wz = wx ∧ wz = w1 ∧ k ≤ n ∧ mm = n - k ∧ i = .int .i64 k ∧ Hid (∀ (j : Nat) (d : Dat), j < k → (dats es)[j]? = some d → rngD d = true))
    case atStart => exact ⟨0, _, rfl, rfl, Nat.zero_le _, rfl, rfl, Lib.hid (fun j d hj => by omega)⟩
    case round =>
      obtain ⟨k, wz, rfl, hwz, hk, rfl, rfl, hinv⟩ := hrel
      subst hwz
      by_cases hlt : k < n
      · have hltI : (k : Int) < (n : Int) := by omega
        obtain ⟨b, off, i1, i2, A1, c1, xs, A2, c2, ys, rfl, _, he, r1, r2, q0, q1, q2, q3⟩ := (RD.out.below B1.out).claim hlt
        have D1 := Lib.hid (dat_claim he)
        have H1 := Lib.hid (fun w => c_l1In i1 0 119 w)
        have H2 := Lib.hid (fun w => c_l1In i2 0 119 w)
        clear he r1 r2 q2 q3
        cases h1 : inB i1 0 119
        · have hzf : z = false := by rw [← hz.out]; exact told_rng D1.out (rng_no1 h1)
          subst hzf
          rw [h1] at H1
          clear h1
          go_wp2_with (first | (go_at_call_of 32 i1; refine (H1.out _).mono ?_; rintro e w' ⟨rfl, rfl⟩))
          go_ret
          exact ⟨rfl, B1.out⟩
        · cases h2 : inB i2 0 119
          · have hzf : z = false := by rw [← hz.out]; exact told_rng D1.out (rng_no2 h2)
            subst hzf
            rw [h1] at H1
            rw [h2] at H2
            clear h1 h2
            go_wp2_with (first | (go_at_call_of 32 i1; refine (H1.out _).mono ?_; rintro e w' ⟨rfl, rfl⟩) | (go_at_call_of 32 i2; refine (H2.out _).mono ?_; rintro e w' ⟨rfl, rfl⟩))
            go_ret
            exact ⟨rfl, B1.out⟩
          · have hok := Lib.hid (rng_yes (L := [xs, ys]) h1 h2)
            rw [h1] at H1
            rw [h2] at H2
            clear h1 h2
            go_wp2_with (first | (go_at_call_of 32 i1; refine (H1.out _).mono ?_; rintro e w' ⟨rfl, rfl⟩) | (go_at_call_of 32 i2; refine (H2.out _).mono ?_; rintro e w' ⟨rfl, rfl⟩))
            go_roundg (n - (k + 1))
            case measure => omega
            case rel => exact ⟨k + 1, _, rfl, rfl, by omega, rfl, by go_num, Lib.hid (fun j d hj hd => by
              by_cases e : j = k
              · subst e
                rw [D1.out] at hd
                cases hd
                exact hok.out
              · exact hinv.out j d (by omega) hd)⟩
      · obtain rfl : k = n := by omega
        have hr : ∀ (j : Nat) (d : Dat), (dats es)[j]? = some d → rngD d = true := fun j d hd => hinv.out j d (by have := (List.getElem?_eq_some_iff.1 hd).1; rw [HN.out] at this; exact this) hd
        have HR := Lib.hid hr
        have HX := Lib.hid (HTx.out _ B1.out HS.out hr)
        clear hr HTx hinv
        go_wp2_with fail
        refine HX.out.mono ?_
        rintro e w2 ⟨T, rfl, hT, b2⟩
        have B2 := Lib.hid (Below.next B1.out b2)
        have hz2 : decide (T.length ≤ 4000) = z := by rw [← hz.out]; exact (told_eq HS.out HR.out hT).symm
        clear b2 hT HX
        by_cases h4 : T.length ≤ 4000
        · have h4I := size_le h4
          rw [decide_eq_true h4] at hz2
          subst hz2
          go_wp2_with fail
          go_ret
          exact ⟨ret_bool (by simp [h4I]), B2.out⟩
        · have h4I := size_gt h4
          rw [decide_eq_false h4] at hz2
          subst hz2
          go_wp2_with fail
          go_ret
          exact ⟨ret_bool (by simp; omega), B2.out⟩
set_option maxHeartbeats 1600000 in
theorem s_ProofText (A : Option Addr) (n c : Nat) (es : List El) (w : World) (rd : RdE 2 2 w A n es) (hn : n ≤ 1048576) (ht : tots es ≤ 1048576) (hl : ∀ e ∈ es, ∀ r ∈ e.rs, r.xs.length ≤ 1048576) :
    Calls Tryd.prog 6 #[.agg #[.slice A n c]] w fun e w' => e = .returned (tv (proofC (dats es))) ∧ Below w.heap.size w w' := by
  have HTo := Lib.hid (fun W (hb : Below w.heap.size w W) => s_l15Told A n c es W (rd.below hb) hn ht hl)
  have HTx := Lib.hid (fun W (hb : Below w.heap.size w W) => s_l15Text A n c es W (rd.below hb) hn ht)
  clear rd hl ht
  cases hz : told (dats es)
  · have fin := Lib.hid (proofC_no hz)
    rw [hz] at HTo
    clear hz
    go_enter Tryd.func6, Tryd.ntmps6
    go_wp2_with fail
    refine (HTo.out _ (by go_grown)).mono ?_
    rintro e w1 ⟨rfl, b1⟩
    have B1 : Hid (Below w.heap.size w w1) := Lib.hid (Below.next (by go_grown) b1)
    clear b1
    go_wp2_with fail
    go_ret2
    exact ⟨ret_tv fin.out, B1.out⟩
  · have fin := Lib.hid (proofC_yes hz)
    have HZ := Lib.hid hz
    rw [hz] at HTo
    have h3 := told_iff.1 hz
    have HTy := Lib.hid (fun W hb => HTx.out W hb h3.1 h3.2.1)
    clear hz h3 HTx
    go_enter Tryd.func6, Tryd.ntmps6
    go_wp2_with fail
    refine (HTo.out _ (by go_grown)).mono ?_
    rintro e w1 ⟨rfl, b1⟩
    have hcA : w1.cell? ⟨w.heap.size, 0, none⟩ = some (.slice A n c) := bkeep b1 _ _ (by simp [go_sem])
    have B1 : Hid (Below w.heap.size w w1) := Lib.hid (Below.next (by go_grown) b1)
    clear b1
    go_wp2_with fail
    refine (HTy.out _ B1.out).mono ?_
    rintro e w2 ⟨T, rfl, hT, b2⟩
    have B2 := Lib.hid (Below.next B1.out b2)
    have e1 := hT.told HZ.out
    subst e1
    clear b2 hT
    go_wp2_with fail
    go_ret2
    exact ⟨ret_tv fin.out, B2.out⟩
end Go.Proofs.YtcogdogiceokdaaDoor
