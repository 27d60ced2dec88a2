/- Draws for the least number. -/
import Derived.Test.YtoaknbeekflnaaaNimS
namespace Go.Proofs.Ytoaknbeekflnaaa
open Go.RowKit

set_option maxHeartbeats 4000000 in
theorem c_DrawMex (A : Option Addr) (n c : Nat) (bs : List Int) (w : World) (hc : Code8 w A n bs) :
    Calls Try.prog 38 #[.slice A n c] w (PilesP w) := by
  obtain ⟨hr, hf, hn⟩ := hc
  have hcur := cur_new (c := c) hr hf
  have hAw : Hid (0 < n → ∀ b off, A = some ⟨b, off, none⟩ → b < w.heap.size) := Lib.hid (fun h0 b off e => by
    obtain ⟨b', off', hA, hb, _⟩ := hr.at_ h0
    rw [hA] at e
    injection e with e
    injection e with e1
    omega)
  clear hr
  go_enter Try.func38, Try.ntmps38
  go_wp2_with fail
  have hcur1 := hcur.below (w' := (w.alloc (.cells #[.slice A n c, .int .i64 0, .int .u64 0] 46)).alloc (.cells #[] 3)) ((Below.refl _ _).alloc (Nat.le_refl _) _)
  have hown0 : ((w.alloc (.cells #[.slice A n c, .int .i64 0, .int .u64 0] 46)).alloc (.cells #[] 3)).ownsRow (w.heap.size + 1) 3 1 (.slice (some ⟨w.heap.size + 1, 0, none⟩) 0 0) 0 [] := by
    have := own_lit0 (w.alloc (.cells #[.slice A n c, .int .i64 0, .int .u64 0] 46)) 3 (w.heap.size + 1) (by simp)
    simpa using this
  refine (c_pick 12 _ A n c bs _ _ hcur1 (by omega) (by omega) (by decide) (by decide)).mono ?_
  rintro e w1 ⟨N, rfl, N0, N1, hc1, gr1⟩
  have hown1 := own_kept hown0 gr1 (.inr (by simp [Value.ownBlock]))
  have hB1 : Below w.heap.size w w1 := (((Below.refl w.heap.size w).alloc (Nat.le_refl _) _).alloc (by simp) _).grown gr1 (by simp; omega) (fun k hk => by injection hk with hk; omega)
  clear hown0 hcur hcur1 gr1
  go_wp2_with fail
  refine (c_one 40 _ A n c bs _ _ hc1 (by omega) (by omega) (by decide) (by decide)).mono ?_
  rintro e w2 ⟨x, rfl, hc2, gr2⟩
  have hown2 := Lib.hid (own_kept hown1 gr2 (.inr (by simp [Value.ownBlock])))
  have hB2 := Lib.hid (hB1.grown gr2 hB1.size (fun k hk => by injection hk with hk; omega))
  have Hc2 := Lib.hid hc2
  clear hown1 hB1 gr2 hc1 hc2
  go_upto_if 14 with fail
  go_cut [5] (fun v wx => ∃ N : Nat, v = .int .i64 N ∧ N ≤ 301 ∧ PS w A n c bs wx (.slice (some ⟨w.heap.size + 1, 0, none⟩) 0 0) 0 10)
  case first =>
    cases x
    · obtain ⟨N, rfl⟩ := Int.eq_ofNat_of_zero_le N0
      go_wp2_with fail
      go_meet
      case rel => exact ⟨N, rfl, by omega, w.heap.size + 1, 0, [], rfl, Lib.hid rfl, hown2.out, Nat.le_refl _, Lib.hid (fun _ h => by simp at h), Hc2.out.more (by omega), hB2.out⟩
    · have HP := Lib.hid (c_pick 2 w.heap.size A n c bs _ w2 Hc2.out (by omega) (by omega) (by decide) (by decide))
      go_wp2_with fail
      refine HP.out.mono ?_
      rintro e w3 ⟨y, rfl, y0, y1, hc3, gr3⟩
      obtain ⟨y, rfl⟩ := Int.eq_ofNat_of_zero_le y0
      have hown3 := Lib.hid (own_kept hown2.out gr3 (.inr (by simp [Value.ownBlock])))
      have hB3 := Lib.hid (hB2.out.grown gr3 hB2.out.size (fun k hk => by injection hk with hk; omega))
      have Hc3 := Lib.hid hc3
      clear hc3 gr3
      go_wp2_with fail
      go_meet
      case rel => exact ⟨300 + y, by go_num, by omega, w.heap.size + 1, 0, [], rfl, Lib.hid rfl, hown3.out, Nat.le_refl _, Lib.hid (fun _ h => by simp at h), Hc3.out.more (by omega), hB3.out⟩
  case rest =>
    clear N0 N1 hown2 hB2 Hc2
    obtain ⟨N, rfl, hN, hps⟩ := hcut
    go_wp2_with fail
    go_loopg [4, 6] N (fun m o i wr => ∃ k : Nat, k ≤ N ∧ m = N - k ∧ i = .int .i64 k ∧ PS w A n c bs wr o k (10 + 2 * (k : Int)))
    case atStart => exact ⟨0, Nat.zero_le _, rfl, rfl, by simpa using hps⟩
    case round =>
      obtain ⟨k, hk, rfl, rfl, g, cap, xs, rfl, hkl, hown, hg, hsm, hcu, hb⟩ := hrel
      have hgl := (hown.lt g rfl).2
      by_cases hlt : k < N
      · have HC := Lib.hid (c_pick 10 w.heap.size A n c bs _ wr hcu (by omega) (by omega) (by decide) (by decide))
        have Hown := Lib.hid hown
        have Hb := Lib.hid hb
        clear hown hcu hb
        go_wp2_with fail
        refine HC.out.mono ?_
        rintro e w2 ⟨x, rfl, x0, x1, hcu2, gr2⟩
        have hown2 := own_kept Hown.out gr2 (.inr (by simp [Value.ownBlock]; omega))
        have hsz2 := gr2.size
        have hB2 : w.heap.size + 1 ≤ w2.heap.size := by omega
        have Hb2 := Lib.hid (Hb.out.grown gr2 Hb.out.size (fun k hk => by injection hk with hk; omega))
        have Hcu2 := Lib.hid hcu2
        clear hcu2 gr2
        go_wp2_with (at_builtin; refine app1 _ 24 3 (.int .i64 0) 8 Try.underlying24 hI_int rfl rfl (.tmp 23) (.tmp 26) rfl (w.heap.size + 1) _ _ _ rfl hown2 (.int .i64 x) rfl rfl (by omega) (by omega) hB2 ?_; intro g' cap' w' h1 h2 h3)
        go_roundg (N - (k + 1))
        case measure => omega
        case rel =>
          have hg' : w.heap.size + 1 ≤ g' := by
            rcases h3 with h3 | h3
            · have := Option.some.inj (show some g = some g' from h3); omega
            · omega
          refine ⟨k + 1, by omega, rfl, by go_num, g', cap', xs ++ [x], rfl, Lib.hid (by simp [hkl.out]), by rw [List.map_append]; exact h1, hg', Lib.hid (hsm.out.snoc (by omega) (by omega)), ?_, Hb2.out.grown h2 Hb2.out.size (by intro q hq; have := Option.some.inj (show some g = some q from hq); omega)⟩
          refine (Hcu2.out.other h2 (fun e => by have := Option.some.inj (show some g = some w.heap.size from e); omega) (fun h0 b off e e2 => by have h4 := hAw.out h0 b off e; have := Option.some.inj (show some g = some b from e2); omega)).more (by omega)
      · obtain rfl : k = N := by omega
        have Hown := Lib.hid hown
        have Hb := Lib.hid hb
        have HC := Lib.hid (c_one 20 w.heap.size A n c bs _ wr hcu (by omega) (by omega) (by decide) (by decide))
        clear hown hcu hb
        by_cases hk0 : 0 < k
        · have hk0' : (0 : Int) < (k : Int) := by omega
          go_wp2_with fail
          refine HC.out.mono ?_
          rintro e w2 ⟨x, rfl, hcu2, gr2⟩
          have hown2 := own_kept Hown.out gr2 (.inr (by simp [Value.ownBlock]; omega))
          have hsz2 := gr2.size
          have Hb2 := Lib.hid (Hb.out.grown gr2 Hb.out.size (fun k hk => by injection hk with hk; omega))
          have Hcu2 := Lib.hid hcu2
          have Hown2 := Lib.hid hown2
          clear hcu2 gr2 hown2
          cases x
          · go_wp2_with fail
            exact bodyPost_ret (results_tmp rfl _ _ _) rfl ⟨g, cap, xs, by rw [← hkl.out]; rfl, by rw [OwnI, ← hkl.out]; exact ownsRow_low Hown2.out (by omega), by rw [← hkl.out]; omega, hsm.out, Hb2.out⟩
          · have HP := Lib.hid (c_pick k w.heap.size A n c bs _ w2 Hcu2.out (by omega) (by omega) (by omega) (by omega))
            go_wp2_with fail
            refine HP.out.mono ?_
            rintro e w3 ⟨y, rfl, y0, y1, hcu3, gr3⟩
            obtain ⟨y, rfl⟩ := Int.eq_ofNat_of_zero_le y0
            have hyN : y < k := by omega
            have hown3 := own_kept Hown2.out gr3 (.inr (by simp [Value.ownBlock]; omega))
            have Hb3 := Lib.hid (Hb2.out.grown gr3 Hb2.out.size (fun k hk => by injection hk with hk; omega))
            have hst := Lib.hid (hown3.stored y (.int .i64 (-1)))
            have hcell : w3.cell? ⟨g, y, none⟩ = some (.int .i64 (xs.getD y 0)) := by
              rw [hown3.cellAt y (by omega), List.getElem?_map]
              have : y < xs.length := by have := hkl.out; omega
              simp [this]
            have hfr := hown3.frozenAt y
            clear hown3 hcu3 gr3
            go_wp2_with fail
            refine bodyPost_ret (results_tmp rfl _ _ _) rfl ⟨g, cap, xs.set y (-1), by rw [List.length_set, ← hkl.out]; rfl, ?_, by rw [List.length_set, ← hkl.out]; omega, hsm.out.set (by omega) (by omega), Hb3.out.grown hst.out.2 Hb3.out.size (by intro q hq; have := Option.some.inj (show some g = some q from hq); omega)⟩
            rw [OwnI, List.length_set, ← hkl.out, List.map_set]
            exact ownsRow_low hst.out.1 (by omega)
        · have hk0' : decide (0 < k) = false := decide_eq_false hk0
          have Hk0 := Lib.hid hk0
          clear hk0
          go_wp2_with fail
          refine HC.out.mono ?_
          rintro e w2 ⟨x, rfl, hcu2, gr2⟩
          have Hown2 := Lib.hid (own_kept Hown.out gr2 (.inr (by simp [Value.ownBlock]; omega)))
          have Hb2 := Lib.hid (Hb.out.grown gr2 Hb.out.size (fun k hk => by injection hk with hk; omega))
          clear hcu2 gr2
          cases x
          all_goals
            go_wp2_with fail
            exact bodyPost_ret (results_tmp rfl _ _ _) rfl ⟨g, cap, xs, by rw [← hkl.out]; rfl, by rw [OwnI, ← hkl.out]; exact ownsRow_low Hown2.out (by omega), by rw [← hkl.out]; omega, hsm.out, Hb2.out⟩
/-- Another code. -/
def CutP (w : World) (e : Ending) (w' : World) : Prop := ∃ (A : Option Addr) (n c : Nat) (bs : List Int), e = .returned (.slice A n c) ∧ Code8 w' A n bs ∧ Below w.heap.size w w'
theorem hI_u8 : (Try.prog.info? 5).map (fun i => (i.zero, i.size, i.bytes)) = some (some (.int .u8 0), 1, 1) := by kernel_rfl
theorem fits_snoc {bs : List Int} {x : Int} (h : Fits .u8 bs) (hx : (Lit.int .u8 x).wf = true) : Fits .u8 (bs ++ [x]) := fun y hy => by
  rcases List.mem_append.1 hy with hy | hy
  · exact h y hy
  · rw [List.mem_singleton] at hy; subst hy; exact hx
set_option maxHeartbeats 1600000 in
theorem c_rCut (A : Option Addr) (n c : Nat) (bs : List Int) (w : World) (hc : Code8 w A n bs) :
    Calls Try.prog 39 #[.slice A n c, .int .i64 2] w (CutP w) := by
  obtain ⟨hr, hf, hn⟩ := hc
  have hm0 : 0 ≤ (n : Int) % 50 := Int.emod_nonneg _ (by decide)
  have hm1 : (n : Int) % 50 < 50 := Int.emod_lt_of_pos _ (by decide)
  obtain ⟨z, hz⟩ : ∃ z, (n : Int) % 50 = z := ⟨_, rfl⟩
  rw [hz] at hm0 hm1
  go_enter Try.func39, Try.ntmps39
  go_wp2_with fail
  have hwf0 : Hid ((Lit.int .u8 (74 + z)).wf = true) := Lib.hid (by
    have e : (Lit.int .u8 (74 + z)).wf = (decide (0 ≤ 74 + z) && decide (74 + z ≤ 255)) := rfl
    rw [e]; simp; omega)
  have hown0 : (w.alloc (.cells #[.int .u8 (74 + z)] 5)).ownsRow w.heap.size 5 1 (.slice (some ⟨w.heap.size, 0, none⟩) 1 1) 1 ([74 + z].map (Value.int .u8)) := World.ownsRow_lit w #[.int .u8 (74 + z)] 1 (Nat.le_refl _) (by decide) rfl
  clear hz
  go_loopg [5, 6] (n - 2) (fun m o i wr => ∃ (k g cap N : Nat) (ys : List Int), 2 ≤ k ∧ (k ≤ n ∨ k = 2) ∧ m = n - k ∧ i = .int .i64 k ∧ o = .slice (some ⟨g, 0, none⟩) N cap ∧ N + 1 ≤ k ∧ Hid (Fits .u8 ys) ∧
    wr.ownsRow w.heap.size 5 1 (.slice (some ⟨g, 0, none⟩) N cap) N (ys.map (Value.int .u8)) ∧ Below w.heap.size w wr)
  case atStart => exact ⟨2, w.heap.size, 1, 1, [74 + z], Nat.le_refl _, .inr rfl, rfl, rfl, rfl, Nat.le_refl _, Lib.hid (fun y hy => by rw [List.mem_singleton] at hy; subst hy; exact hwf0.out), hown0, by go_grown⟩
  case round =>
    obtain ⟨k, g, cap, N, ys, hk2, hkn, rfl, rfl, rfl, hN, hfy, hown, hb⟩ := hrel
    by_cases hlt : k < n
    · obtain ⟨b, off, rfl, _, hcx0⟩ := (RdV.below hr hb).at_ hlt
      have hkl : k < bs.length := by have := hr.len; simp at this; omega
      have hcx := hcx0 k (.int .u8 (bs.getD k 0)) (by simp [hkl])
      clear hcx0
      generalize bs.getD k 0 = x at *
      have hbw : w.heap.size ≤ wr.heap.size := hb.size
      have Hb := Lib.hid hb
      clear hb hr hkn
      go_wp2_with (at_builtin; refine app1 _ 33 5 (.int .u8 0) 1 Try.underlying33 hI_u8 rfl rfl (.tmp 22) (.tmp 30) rfl w.heap.size _ _ _ rfl hown (.int .u8 (bits .xor .u8 x 2)) rfl rfl (by omega) (by omega) hbw ?_; intro g' cap' w' h1 h2 h3)
      go_roundg (n - (k + 1))
      case measure => omega
      case rel =>
        exact ⟨k + 1, g', cap', N + 1, ys ++ [bits .xor .u8 x 2], by omega, .inl (by omega), rfl, by go_num, rfl, by omega, Lib.hid (fits_snoc hfy.out (wf_wrap _ _)), by rw [List.map_append]; exact h1, Hb.out.grown h2 hbw (by intro q hq; have := (hown.lt q hq).1; omega)⟩
    · have hrd : RdV wr (some ⟨g, 0, none⟩) N (ys.map (Value.int .u8)) := RdV.of_own hown
      have Hb := Lib.hid hb
      have Hr := Lib.hid hrd
      clear hb hrd hown hr
      go_wp2_with fail
      exact bodyPost_ret (results_tmp rfl _ _ _) rfl ⟨some ⟨g, 0, none⟩, N, cap, ys, rfl, ⟨Hr.out, hfy.out, by omega⟩, Hb.out⟩
end Go.Proofs.Ytoaknbeekflnaaa
