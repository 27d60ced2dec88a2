/- Draws of piles. -/
import Derived.Test.YtoaknbeekflnaaaNimP
import Derived.Test.YtoaknbeekflnaaaNimF
import Derived.Test.YtoaknbeekflnaaaMarks
import Derived.Deep.DeepCutAuto
import Derived.Deep.WholeRow
import Derived.Deep.CutBlock
import Derived.Deep.LoopGhost
import Derived.StillTailTactics
namespace Go.Proofs.Ytoaknbeekflnaaa
open Go.RowKit

theorem Cur.other {w w' : World} {g : Nat} {A : Option Addr} {n c : Nat} {bs : List Int} {m : Int} {row : Option Nat} (h : Cur w g A n c bs m) (hg : w.grownBy w' row) (h1 : row ≠ some g) (h2 : 0 < n → ∀ b off, A = some ⟨b, off, none⟩ → row ≠ some b) : Cur w' g A n c bs m := by
  have hlt := h.lt
  obtain ⟨⟨at', seed, hh, r⟩, hr, hf, hne⟩ := h
  refine ⟨⟨at', seed, (hg.block g hlt (Ne.symm h1)).trans hh, r⟩, ⟨hr.1, fun hn => ?_⟩, hf, hne⟩
  obtain ⟨b, off, hA, hb, hc⟩ := hr.at_ hn
  exact ⟨b, off, hA, fun i u hu => (World.cell?_of_block (a := ⟨b, off + i, none⟩) (hg.block b hb (Ne.symm (h2 hn b off hA)))).trans (hc i u hu)⟩
theorem ownsRow_low {w : World} {base base' : Nat} {E : TypeId} {v : Value} {n : Nat} {xs : List Value} (h : w.ownsRow base E 1 v n xs) (hb : base' ≤ base) : w.ownsRow base' E 1 v n xs := by
  refine ⟨h.1, ?_⟩
  rcases h.2 with h0 | ⟨g, cap, cur, he, hg, r⟩
  · exact .inl h0
  · exact .inr ⟨g, cap, cur, he, Nat.le_trans hb hg, r⟩
/-- The numbers of piles. -/
def Small (xs : List Int) : Prop := ∀ x ∈ xs, -1 ≤ x ∧ x ≤ 256
theorem Small.snoc {xs : List Int} {x : Int} (h : Small xs) (h1 : -1 ≤ x) (h2 : x ≤ 256) : Small (xs ++ [x]) := fun y hy => by
  rcases List.mem_append.1 hy with hy | hy
  · exact h y hy
  · rw [List.mem_singleton] at hy; subst hy; exact ⟨h1, h2⟩
theorem Small.set {xs : List Int} {i : Nat} {x : Int} (h : Small xs) (h1 : -1 ≤ x) (h2 : x ≤ 256) : Small (xs.set i x) := fun y hy => by
  rcases List.mem_or_eq_of_mem_set hy with hy | hy
  · exact h y hy
  · subst hy; exact ⟨h1, h2⟩
/-- The list so far, and the cursor. -/
def PS (w : World) (A : Option Addr) (n c : Nat) (bs : List Int) (wx : World) (o : Value) (N : Nat) (M : Int) : Prop :=
  ∃ (g cap : Nat) (xs : List Int), o = .slice (some ⟨g, 0, none⟩) N cap ∧ Hid (N = xs.length) ∧
    wx.ownsRow (w.heap.size + 1) 3 1 (.slice (some ⟨g, 0, none⟩) N cap) N (xs.map (Value.int .i64)) ∧ w.heap.size + 1 ≤ g ∧ Hid (Small xs) ∧ Cur wx w.heap.size A n c bs M ∧ Below w.heap.size w wx
/-- A new list of piles. -/
def PilesP (w : World) (e : Ending) (w' : World) : Prop :=
  ∃ (g c : Nat) (xs : List Int), e = .returned (.slice (some ⟨g, 0, none⟩) xs.length c) ∧ OwnI w' w.heap.size (some ⟨g, 0, none⟩) c xs ∧ xs.length ≤ 302 ∧ Small xs ∧ Below w.heap.size w w'
theorem pv_rng : ∀ (xs : List Int) (acc : Int), 0 ≤ acc → acc ≤ 255 → -1 ≤ pv acc xs ∧ pv acc xs ≤ 255
  | [], acc, h0, h1 => ⟨by unfold pv; omega, by unfold pv; omega⟩
  | y :: r, acc, h0, h1 => by
    unfold pv
    cases hy : inB y 0 255
    · simp
    · rw [if_pos rfl]
      have hb := inB_true.1 hy
      have := xor_rng (x := acc) (y := y) 8 (by omega) h0 (by simp; omega) hb.1 (by simp; omega)
      simp at this
      exact pv_rng r _ this.1 (by omega)
theorem fPiles_rng (xs : List Int) : -1 ≤ fPiles xs ∧ fPiles xs ≤ 255 := by
  unfold fPiles
  split
  · exact pv_rng xs 0 (by omega) (by omega)
  · omega
set_option maxHeartbeats 4000000 in
theorem c_l16DrawPiles (A : Option Addr) (n c : Nat) (bs : List Int) (w : World) (hc : Code8 w A n bs) :
    Calls Try.prog 48 #[.slice A n c] w (PilesP w) := by
  obtain ⟨hr, hf, hn⟩ := hc
  have hcur := cur_new (c := c) hr hf
  have hAw : Hid (0 < n → ∀ b off, A = some ⟨b, off, none⟩ → b < w.heap.size) := Lib.hid (fun h0 b off e => by
    obtain ⟨b', off', hA, hb, _⟩ := hr.at_ h0
    rw [hA] at e
    injection e with e
    injection e with e1
    omega)
  clear hr
  go_enter Try.func48, Try.ntmps48
  go_wp2_with fail
  have hcur1 := hcur.below (w' := (w.alloc (.cells #[.slice A n c, .int .i64 0, .int .u64 0] 46)).alloc (.cells #[] 3)) ((Below.refl _ _).alloc (Nat.le_refl _) _)
  have hown0 : ((w.alloc (.cells #[.slice A n c, .int .i64 0, .int .u64 0] 46)).alloc (.cells #[] 3)).ownsRow (w.heap.size + 1) 3 1 (.slice (some ⟨w.heap.size + 1, 0, none⟩) 0 0) 0 [] := by
    have := own_lit0 (w.alloc (.cells #[.slice A n c, .int .i64 0, .int .u64 0] 46)) 3 (w.heap.size + 1) (by simp)
    simpa using this
  refine (c_pick 7 _ A n c bs _ _ hcur1 (by omega) (by omega) (by decide) (by decide)).mono ?_
  rintro e w1 ⟨N, rfl, N0, N1, hc1, gr1⟩
  have hown1 := own_kept hown0 gr1 (.inr (by simp [Value.ownBlock]))
  have hB1 : Below w.heap.size w w1 := (((Below.refl w.heap.size w).alloc (Nat.le_refl _) _).alloc (by simp) _).grown gr1 (by simp; omega) (fun k hk => by injection hk with hk; omega)
  clear hown0 hcur hcur1 gr1
  go_wp2_with fail
  refine (c_one 40 _ A n c bs _ _ hc1 (by omega) (by omega) (by decide) (by decide)).mono ?_
  rintro e w2 ⟨x, rfl, hc2, gr2⟩
  have hown2 := Lib.hid (own_kept hown1 gr2 (.inr (by simp [Value.ownBlock])))
  have hB2 := Lib.hid (hB1.grown gr2 hB1.size (fun k hk => by injection hk with hk; omega))
  have Hc2 := Lib.hid hc2
  clear hown1 hB1 gr2 hc1 hc2
  go_upto_if 15 with fail
  go_cut [5] (fun v wx => ∃ N : Nat, v = .int .i64 N ∧ N ≤ 301 ∧ PS w A n c bs wx (.slice (some ⟨w.heap.size + 1, 0, none⟩) 0 0) 0 10)
  case first =>
    cases x
    · obtain ⟨N, rfl⟩ := Int.eq_ofNat_of_zero_le N0
      go_wp2_with fail
      go_meet
      case rel => exact ⟨N, rfl, by omega, w.heap.size + 1, 0, [], rfl, Lib.hid rfl, hown2.out, Nat.le_refl _, Lib.hid (fun _ h => by simp at h), Hc2.out.more (by omega), hB2.out⟩
    · have HP := Lib.hid (c_pick 2 w.heap.size A n c bs _ w2 Hc2.out (by omega) (by omega) (by decide) (by decide))
      go_wp2_with fail
      refine HP.out.mono ?_
      rintro e w3 ⟨y, rfl, y0, y1, hc3, gr3⟩
      obtain ⟨y, rfl⟩ := Int.eq_ofNat_of_zero_le y0
      have hown3 := Lib.hid (own_kept hown2.out gr3 (.inr (by simp [Value.ownBlock])))
      have hB3 := Lib.hid (hB2.out.grown gr3 hB2.out.size (fun k hk => by injection hk with hk; omega))
      have Hc3 := Lib.hid hc3
      clear hc3 gr3
      go_wp2_with fail
      go_meet
      case rel => exact ⟨300 + y, by go_num, by omega, w.heap.size + 1, 0, [], rfl, Lib.hid rfl, hown3.out, Nat.le_refl _, Lib.hid (fun _ h => by simp at h), Hc3.out.more (by omega), hB3.out⟩
  case rest =>
    clear N0 N1 hown2 hB2 Hc2
    obtain ⟨N, rfl, hN, hps⟩ := hcut
    go_wp2_with fail
    go_loopg [4, 6] N (fun m o i wr => ∃ k : Nat, k ≤ N ∧ m = N - k ∧ i = .int .i64 k ∧ PS w A n c bs wr o k (10 + 2 * (k : Int)))
    case atStart => exact ⟨0, Nat.zero_le _, rfl, rfl, by simpa using hps⟩
    case round =>
      obtain ⟨k, hk, rfl, rfl, g, cap, xs, rfl, hkl, hown, hg, hsm, hcu, hb⟩ := hrel
      have hgl := (hown.lt g rfl).2
      by_cases hlt : k < N
      · have HC := Lib.hid (c_pick 16 w.heap.size A n c bs _ wr hcu (by omega) (by omega) (by decide) (by decide))
        have Hown := Lib.hid hown
        have Hb := Lib.hid hb
        clear hown hcu hb
        go_wp2_with fail
        refine HC.out.mono ?_
        rintro e w2 ⟨x, rfl, x0, x1, hcu2, gr2⟩
        have hown2 := own_kept Hown.out gr2 (.inr (by simp [Value.ownBlock]; omega))
        have hsz2 := gr2.size
        have hB2 : w.heap.size + 1 ≤ w2.heap.size := by omega
        have Hb2 := Lib.hid (Hb.out.grown gr2 Hb.out.size (fun k hk => by injection hk with hk; omega))
        have Hcu2 := Lib.hid hcu2
        clear hcu2 gr2
        go_wp2_with (at_builtin; refine app1 _ 24 3 (.int .i64 0) 8 Try.underlying24 hI_int rfl rfl (.tmp 24) (.tmp 27) rfl (w.heap.size + 1) _ _ _ rfl hown2 (.int .i64 x) rfl rfl (by omega) (by omega) hB2 ?_; intro g' cap' w' h1 h2 h3)
        go_roundg (N - (k + 1))
        case measure => omega
        case rel =>
          have hg' : w.heap.size + 1 ≤ g' := by
            rcases h3 with h3 | h3
            · have := Option.some.inj (show some g = some g' from h3); omega
            · omega
          refine ⟨k + 1, by omega, rfl, by go_num, g', cap', xs ++ [x], rfl, Lib.hid (by simp [hkl.out]), by rw [List.map_append]; exact h1, hg', Lib.hid (hsm.out.snoc (by omega) (by omega)), ?_, Hb2.out.grown h2 Hb2.out.size (by intro q hq; have := Option.some.inj (show some g = some q from hq); omega)⟩
          refine (Hcu2.out.other h2 (fun e => by have := Option.some.inj (show some g = some w.heap.size from e); omega) (fun h0 b off e e2 => by have h4 := hAw.out h0 b off e; have := Option.some.inj (show some g = some b from e2); omega)).more (by omega)
      · obtain rfl : k = N := by omega
        have hrd : RdI wr (some ⟨g, 0, none⟩) k xs := RdV.of_own hown
        have Hown := Lib.hid hown
        have Hb := Lib.hid hb
        have HC := Lib.hid (c_one 3 w.heap.size A n c bs _ wr hcu (by omega) (by omega) (by decide) (by decide))
        clear hown hcu hb
        by_cases hk0 : 0 < k
        · have hk0' : (0 : Int) < (k : Int) := by omega
          go_wp2_with fail
          refine HC.out.mono ?_
          rintro e w2 ⟨x, rfl, hcu2, gr2⟩
          have hown2 := own_kept Hown.out gr2 (.inr (by simp [Value.ownBlock]; omega))
          have hrd2 : RdI w2 (some ⟨g, 0, none⟩) k xs := RdV.of_own hown2
          have hsz2 := gr2.size
          have hB2 : w.heap.size + 1 ≤ w2.heap.size := by omega
          have Hb2 := Lib.hid (Hb.out.grown gr2 Hb.out.size (fun k hk => by injection hk with hk; omega))
          have Hcu2 := Lib.hid hcu2
          have Hown2 := Lib.hid hown2
          clear hcu2 gr2 hown2
          cases x
          all_goals
            go_upto_if 34 with fail
            go_cut [4] (fun o wx => ∃ N : Nat, k ≤ N ∧ N ≤ 302 ∧ PS w A n c bs wx o N 700)
          case first =>
            go_wp2_with fail
            go_meet
            case rel => exact ⟨k, Nat.le_refl _, by omega, g, cap, xs, rfl, hkl, Hown2.out, hg, hsm, Hcu2.out.more (by omega), Hb2.out⟩
          case first =>
            have HV := Lib.hid (s_PilesValue (some ⟨g, 0, none⟩) cap xs w2 (by rw [← hkl.out]; exact hrd2))
            rw [← hkl.out] at HV
            have hfr := fPiles_rng xs
            generalize fPiles xs = V at *
            go_wp2_with fail
            refine HV.out.mono ?_
            rintro e w3 ⟨rfl, q3⟩
            have hown3 := own_below Hown2.out q3.below
            have Hb3 := Lib.hid (Below.next Hb2.out q3.below)
            have Hcu3 := Lib.hid (Hcu2.out.below q3.below)
            have hB3 : w.heap.size + 1 ≤ w3.heap.size := by rw [q3.size]; exact hB2
            clear hrd hrd2
            by_cases hv : 0 ≤ V
            · by_cases h3 : k < 300
              · have h3' : (k : Int) < 300 := by omega
                go_wp2_with (at_builtin; refine app1 _ 24 3 (.int .i64 0) 8 Try.underlying24 hI_int rfl rfl (.tmp 43) (.tmp 45) rfl (w.heap.size + 1) _ _ _ rfl hown3 (.int .i64 V) rfl rfl (by omega) (by omega) hB3 ?_; intro g' cap' w' h1 h2 h3)
                go_meet
                case rel =>
                  have hg' : w.heap.size + 1 ≤ g' := by
                    rcases h3 with h3 | h3
                    · have := Option.some.inj (show some g = some g' from h3); omega
                    · omega
                  refine ⟨k + 1, by omega, by omega, g', cap', xs ++ [V], rfl, Lib.hid (by simp [hkl.out]), by rw [List.map_append]; exact h1, hg', Lib.hid (hsm.out.snoc (by omega) (by omega)), ?_, Hb3.out.grown h2 Hb3.out.size (by intro q hq; have := Option.some.inj (show some g = some q from hq); omega)⟩
                  refine (Hcu3.out.other h2 (fun e => by have := Option.some.inj (show some g = some w.heap.size from e); omega) (fun h0 b off e e2 => by have h4 := hAw.out h0 b off e; have := Option.some.inj (show some g = some b from e2); omega)).more (by omega)
              · have h3' : decide ((k : Int) < 300) = false := by rw [decide_eq_false_iff_not]; omega
                have Hown3 := Lib.hid hown3
                clear hown3
                go_wp2_with fail
                go_meet
                case rel => exact ⟨k, Nat.le_refl _, by omega, g, cap, xs, rfl, hkl, Hown3.out, hg, hsm, Hcu3.out.more (by omega), Hb3.out⟩
            · have Hown3 := Lib.hid hown3
              clear hown3
              go_wp2_with fail
              go_meet
              case rel => exact ⟨k, Nat.le_refl _, by omega, g, cap, xs, rfl, hkl, Hown3.out, hg, hsm, Hcu3.out.more (by omega), Hb3.out⟩
          all_goals
            clear HC Hown Hb Hown2 Hb2 Hcu2 hB2 hsz2 hrd hrd2
            obtain ⟨N, hkN, hN302, g, cap, xs, rfl, hkl, hown, hg, hsm, hcu, hb⟩ := hcut
            have hgl := (hown.lt g rfl).2
            have Hown := Lib.hid hown
            have Hb := Lib.hid hb
            have HC := Lib.hid (c_one 20 w.heap.size A n c bs _ wc hcu (by omega) (by omega) (by decide) (by decide))
            clear hown hcu hb
            go_wp2_with fail
            refine HC.out.mono ?_
            rintro e w2 ⟨x, rfl, hcu2, gr2⟩
            have hown2 := own_kept Hown.out gr2 (.inr (by simp [Value.ownBlock]; omega))
            have hsz2 := gr2.size
            have Hb2 := Lib.hid (Hb.out.grown gr2 Hb.out.size (fun k hk => by injection hk with hk; omega))
            have Hcu2 := Lib.hid hcu2
            have Hown2 := Lib.hid hown2
            clear hcu2 gr2 hown2
            cases x
            · go_wp2_with fail
              exact bodyPost_ret (results_tmp rfl _ _ _) rfl ⟨g, cap, xs, by rw [← hkl.out]; rfl, by rw [OwnI, ← hkl.out]; exact ownsRow_low Hown2.out (by omega), by rw [← hkl.out]; exact hN302, hsm.out, Hb2.out⟩
            · have HP := Lib.hid (c_pick k w.heap.size A n c bs _ w2 Hcu2.out (by omega) (by omega) (by omega) (by omega))
              go_wp2_with fail
              refine HP.out.mono ?_
              rintro e w3 ⟨y, rfl, y0, y1, hcu3, gr3⟩
              obtain ⟨y, rfl⟩ := Int.eq_ofNat_of_zero_le y0
              have hyN : y < N := by omega
              have hown3 := own_kept Hown2.out gr3 (.inr (by simp [Value.ownBlock]; omega))
              have hsz3 := gr3.size
              have Hb3 := Lib.hid (Hb2.out.grown gr3 Hb2.out.size (fun k hk => by injection hk with hk; omega))
              have hr3 : RdI (w3.alloc (.cells ([(-1 : Int), 255, 256].map (Value.int .i64)).toArray 3)) (some ⟨w3.heap.size, 0, none⟩) 3 [-1, 255, 256] := RdI.of_cells (heap_alloc_new _ _)
              have HA := Lib.hid (c_among (some ⟨w3.heap.size, 0, none⟩) 3 [-1, 255, 256] (by decide) (by decide) w.heap.size (fun b off e => by injection e with e; injection e with e; omega) A n c bs _ _ hr3 (hcu3.below ((Below.refl _ _).alloc (Nat.le_refl _) _)) (by omega) (by omega))
              have hown4 := Lib.hid (hown3.alloc (.cells ([(-1 : Int), 255, 256].map (Value.int .i64)).toArray 3))
              have Hb4 := Lib.hid (Hb3.out.alloc Hb3.out.size (.cells ([(-1 : Int), 255, 256].map (Value.int .i64)).toArray 3))
              clear hr3 hcu3 gr3 hown3
              go_wp2_with fail
              refine HA.out.mono ?_
              rintro e w4 ⟨z, rfl, hz, hcu4, gr4⟩
              have hzr : -1 ≤ z ∧ z ≤ 256 := by
                simp only [List.mem_cons, List.not_mem_nil, or_false] at hz
                omega
              have hown5 := own_kept hown4.out gr4 (.inr (by simp [Value.ownBlock]; omega))
              have Hb5 := Lib.hid (Hb4.out.grown gr4 Hb4.out.size (fun k hk => by injection hk with hk; omega))
              have hst := Lib.hid (hown5.stored y (.int .i64 z))
              have hcell : w4.cell? ⟨g, y, none⟩ = some (.int .i64 (xs.getD y 0)) := by
                rw [hown5.cellAt y (by omega), List.getElem?_map]
                have : y < xs.length := by have := hkl.out; omega
                simp [this]
              have hfr := hown5.frozenAt y
              clear hown5 hz hcu4 gr4
              go_wp2_with fail
              refine bodyPost_ret (results_tmp rfl _ _ _) rfl ⟨g, cap, xs.set y z, by rw [List.length_set, ← hkl.out]; rfl, ?_, by rw [List.length_set, ← hkl.out]; exact hN302, hsm.out.set hzr.1 hzr.2, Hb5.out.grown hst.out.2 Hb5.out.size (by intro q hq; have := Option.some.inj (show some g = some q from hq); omega)⟩
              rw [OwnI, List.length_set, ← hkl.out, List.map_set]
              exact ownsRow_low hst.out.1 (by omega)
        · have hk0' : decide (0 < k) = false := decide_eq_false hk0
          have Hk0 := Lib.hid hk0
          clear hk0 hrd
          go_wp2_with fail
          refine HC.out.mono ?_
          rintro e w2 ⟨x, rfl, hcu2, gr2⟩
          have Hown2 := Lib.hid (own_kept Hown.out gr2 (.inr (by simp [Value.ownBlock]; omega)))
          have Hb2 := Lib.hid (Hb.out.grown gr2 Hb.out.size (fun k hk => by injection hk with hk; omega))
          have HC2 := Lib.hid (c_one 20 w.heap.size A n c bs _ w2 hcu2 (by omega) (by omega) (by decide) (by decide))
          clear hcu2 gr2
          cases x
          all_goals
            go_wp2_with fail
            refine HC2.out.mono ?_
            rintro e w3 ⟨x, rfl, hcu3, gr3⟩
            have Hown3 := Lib.hid (own_kept Hown2.out gr3 (.inr (by simp [Value.ownBlock]; omega)))
            have Hb3 := Lib.hid (Hb2.out.grown gr3 Hb2.out.size (fun k hk => by injection hk with hk; omega))
            clear hcu3 gr3
            cases x
            all_goals
              go_wp2_with fail
              exact bodyPost_ret (results_tmp rfl _ _ _) rfl ⟨g, cap, xs, by rw [← hkl.out]; rfl, by rw [OwnI, ← hkl.out]; exact ownsRow_low Hown3.out (by omega), by rw [← hkl.out]; omega, hsm.out, Hb3.out⟩
set_option maxHeartbeats 400000 in
theorem c_DrawPileMove (A : Option Addr) (n c : Nat) (bs : List Int) (w : World) (hc : Code8 w A n bs) :
    Calls Try.prog 36 #[.slice A n c] w (PilesP w) := by
  go_enter Try.func36, Try.ntmps36
  go_wp2_with fail
  refine (c_l16DrawPiles A n c bs _ hc).mono ?_
  rintro e w1 ⟨g, cap, xs, rfl, ho, hl, hs, hb⟩
  have Ho := Lib.hid ho
  have Hb := Lib.hid hb
  clear ho hb
  go_wp2_with fail
  exact bodyPost_ret (results_tmp rfl _ _ _) rfl ⟨g, cap, xs, rfl, Ho.out, hl, hs, Hb.out⟩
end Go.Proofs.Ytoaknbeekflnaaa
