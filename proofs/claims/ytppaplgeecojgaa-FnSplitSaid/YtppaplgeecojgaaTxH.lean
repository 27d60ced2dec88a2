/- Draws of texts, of lists of texts; the round trip of splitting and joining. -/
import Derived.Test.YtppaplgeecojgaaTxG
namespace Go.Proofs.Ytppaplgeecojgaa
open Go.RowKit

theorem Cur.other {w w' : World} {g : Nat} {A : Option Addr} {n c : Nat} {bs : List Int} {m : Int} {row : Option Nat} (h : Cur w g A n c bs m) (hg : w.grownBy w' row) (h1 : row ≠ some g) (h2 : 0 < n → ∀ b off, A = some ⟨b, off, none⟩ → row ≠ some b) : Cur w' g A n c bs m := by
  have hlt := h.lt
  obtain ⟨⟨at', seed, hh, r⟩, hr, hf, hne⟩ := h
  refine ⟨⟨at', seed, (hg.block g hlt (Ne.symm h1)).trans hh, r⟩, ⟨hr.1, fun hn => ?_⟩, hf, hne⟩
  obtain ⟨b, off, hA, hb, hc⟩ := hr.at_ hn
  exact ⟨b, off, hA, fun i u hu => (World.cell?_of_block (a := ⟨b, off + i, none⟩) (hg.block b hb (Ne.symm (h2 hn b off hA)))).trans (hc i u hu)⟩
theorem ownsRow_low {w : World} {base base' : Nat} {E : TypeId} {v : Value} {n : Nat} {xs : List Value} (h : w.ownsRow base E 1 v n xs) (hb : base' ≤ base) : w.ownsRow base' E 1 v n xs := by
  refine ⟨h.1, ?_⟩
  rcases h.2 with h0 | ⟨g, cap, cur, he, hg, r⟩
  · exact .inl h0
  · exact .inr ⟨g, cap, cur, he, Nat.le_trans hb hg, r⟩
/-- Two short texts. -/
def TwoS (w : World) (e : Ending) (w' : World) : Prop := ∃ a b : ByteArray, e = .returned (.tuple #[.string a, .string b]) ∧ a.size ≤ 10 ∧ b.size ≤ 10 ∧ Below w.heap.size w w'
theorem two_below {w w1 w2 : World} {o : Obj} (gr1 : (w.alloc o).grownBy w1 (some w.heap.size)) (gr2 : w1.grownBy w2 (some w.heap.size)) : Below w.heap.size w w2 :=
  (((Below.refl _ _).alloc (Nat.le_refl _) _).grown gr1 (by simp) (fun k hk => by injection hk with hk; omega)).grown gr2 (by have := gr1.size; simp at this; omega) (fun k hk => by injection hk with hk; omega)
set_option maxHeartbeats 1000000 in
theorem c_DrawLessText (A : Option Addr) (n c : Nat) (bs : List Int) (w : World) (hc : Code8 w A n bs) :
    Calls Try.prog 24 #[.slice A n c] w (TwoS w) := by
  obtain ⟨hr, hf, hn⟩ := hc
  have hcur := cur_new (c := c) hr hf
  go_enter Try.func24, Try.ntmps24
  go_wp2_with fail
  refine (c_any1 _ A n c bs _ _ hcur (by omega) (by omega)).mono ?_
  rintro e w1 ⟨x, rfl, x0, hc1, gr1⟩
  go_wp2_with fail
  refine (c_any1 _ A n c bs _ _ hc1 (by omega) (by omega)).mono ?_
  rintro e w2 ⟨y, rfl, y0, hc2, gr2⟩
  have hB := two_below gr1 gr2
  go_wp2_with fail
  exact bodyPost_ret (results_tmp2 rfl _ _ _) rfl ⟨x, y, rfl, x0, y0, hB⟩
set_option maxHeartbeats 1000000 in
theorem c_DrawSplitText (A : Option Addr) (n c : Nat) (bs : List Int) (w : World) (hc : Code8 w A n bs) :
    Calls Try.prog 22 #[.slice A n c] w (TwoS w) := by
  obtain ⟨hr, hf, hn⟩ := hc
  have hcur := cur_new (c := c) hr hf
  obtain ⟨xs, hxs⟩ : ∃ xs : List ByteArray, xs = [⟨#[44]⟩, ⟨#[44]⟩, ⟨#[32]⟩, ⟨#[]⟩, ⟨#[44, 44]⟩] := ⟨_, rfl⟩
  have hsh := Lib.hid (short_of xs (by rw [hxs]; decide))
  have hl : xs.length = 5 := by rw [hxs]; rfl
  go_enter Try.func22, Try.ntmps22
  go_wp2_with fail
  refine (c_any1 _ A n c bs _ _ hcur (by omega) (by omega)).mono ?_
  rintro e w1 ⟨x, rfl, x0, hc1, gr1⟩
  have hr1 : RdS (w1.alloc (.cells (xs.map Value.string).toArray 9)) (some ⟨w1.heap.size, 0, none⟩) xs.length xs := RdS.of_cells (heap_alloc_new _ _)
  have HO := Lib.hid (c_of (some ⟨w1.heap.size, 0, none⟩) 5 xs (by omega) (by omega) w.heap.size (fun b off e => by injection e with e; injection e with e; have := hc1.lt; omega) A n c bs _ _ hr1 (hc1.below ((Below.refl _ _).alloc (Nat.le_refl _) _)) (by omega) (by omega))
  rw [hl, hxs] at HO
  clear hr1 hl
  go_wp2_with fail
  refine HO.out.mono ?_
  rintro e w2 ⟨y, rfl, hy, hc2, gr2⟩
  rw [← hxs] at hy
  have HY := Lib.hid (hsh.out y hy)
  have hB := two_below gr1 (grown_trans (World.grownBy_alloc w1 _ (some w.heap.size)) gr2)
  clear hxs hy
  go_wp2_with fail
  exact bodyPost_ret (results_tmp2 rfl _ _ _) rfl ⟨x, y, rfl, x0, HY.out, hB⟩
theorem own_cap {w : World} {base : Nat} {E : TypeId} {A : Option Addr} {n c : Nat} {xs : List Value} (h : w.ownsRow base E 1 (.slice A n c) n xs) : n ≤ c := by
  rcases h.2 with ⟨he, h0⟩ | ⟨g, cap, cur, he, hg, hb, hle, r⟩
  · omega
  · injection he with e1 e2 e3
    omega
/-- A list of texts, and a text. -/
def ListS (w : World) (e : Ending) (w' : World) : Prop :=
  ∃ (A : Option Addr) (cap : Nat) (l : List ByteArray) (sign : ByteArray), e = .returned (.tuple #[.slice A l.length cap, .string sign]) ∧ OwnS w' w.heap.size A cap l ∧ szs l ≤ 5000 ∧ l.length ≤ 4 ∧ l.length ≤ cap ∧ sign.size ≤ 10 ∧ Below w.heap.size w w'
theorem szs_snoc (l : List ByteArray) (x : ByteArray) : szs (l ++ [x]) = szs l + x.size := by simp [szs]
theorem mk_bytes (n : Nat) (hn : n ≤ 1048576) (W : World) :
    (Instr.makeSlice 35 (.int .i64 (n : Int)) (.int .i64 (n : Int))).run Try.prog W = .ok (.slice (some ⟨W.heap.size, 0, none⟩) n n) (W.alloc (.cells (madeCells #[.int .u8 0] n) 5)) :=
  run_make_row' (P := Try.prog) 35 5 (.int .u8 0) 1 Try.underlying35 (by kernel_rfl) rfl .i64 .i64 n (by omega) (by omega) W
set_option maxHeartbeats 2000000 in
theorem c_DrawJoinTexts (A : Option Addr) (n c : Nat) (bs : List Int) (w : World) (hc : Code8 w A n bs) :
    Calls Try.prog 23 #[.slice A n c] w (ListS w) := by
  obtain ⟨hr, hf, hn⟩ := hc
  have hcur := cur_new (c := c) hr hf
  have hAw : Hid (0 < n → ∀ b off, A = some ⟨b, off, none⟩ → b < w.heap.size) := Lib.hid (fun h0 b off e => by
    obtain ⟨b', off', hA, hb, _⟩ := hr.at_ h0
    rw [hA] at e
    injection e with e
    injection e with e1
    omega)
  obtain ⟨xs, hxs⟩ : ∃ xs : List ByteArray, xs = [⟨#[44]⟩, ⟨#[59]⟩, ⟨#[59]⟩, ⟨#[]⟩, ⟨#[97, 98]⟩] := ⟨_, rfl⟩
  have hsh := Lib.hid (short_of xs (by rw [hxs]; decide))
  have Hxs := Lib.hid hxs
  have hl : xs.length = 5 := by rw [hxs]; rfl
  clear hxs hr
  go_enter Try.func23, Try.ntmps23
  go_wp2_with fail
  have hcur1 := hcur.below (w' := (w.alloc (.cells #[.slice A n c, .int .i64 0, .int .u64 0] 50)).alloc (.cells #[] 9)) ((Below.refl _ _).alloc (Nat.le_refl _) _)
  have hown0 : OwnS ((w.alloc (.cells #[.slice A n c, .int .i64 0, .int .u64 0] 50)).alloc (.cells #[] 9)) (w.heap.size + 1) (some ⟨w.heap.size + 1, 0, none⟩) 0 [] := by
    have := own_litS (w.alloc (.cells #[.slice A n c, .int .i64 0, .int .u64 0] 50)) (w.heap.size + 1) (by simp)
    simpa using this
  refine (c_pick 4 _ A n c bs _ _ hcur1 (by omega) (by omega) (by decide) (by decide)).mono ?_
  rintro e w1 ⟨N, rfl, N0, N1, hc1, gr1⟩
  obtain ⟨N, rfl⟩ := Int.eq_ofNat_of_zero_le N0
  have hN4 : N ≤ 3 := by omega
  have hown1 := own_kept hown0 gr1 (.inr (by simp [Value.ownBlock]))
  have hB1 : Below w.heap.size w w1 := (((Below.refl w.heap.size w).alloc (Nat.le_refl _) _).alloc (by simp) _).grown gr1 (by simp; omega) (fun k hk => by injection hk with hk; omega)
  clear hown0 hcur hcur1 gr1 N0 N1
  go_wp2_with fail
  go_loopg [5, 7] N (fun m o i wr => ∃ (k g cap : Nat) (l : List ByteArray), k ≤ N ∧ m = N - k ∧ i = .int .i64 k ∧ o = .slice (some ⟨g, 0, none⟩) k cap ∧ Hid (k = l.length) ∧ Hid (szs l ≤ 10 * k) ∧
      wr.ownsRow (w.heap.size + 1) 9 1 (.slice (some ⟨g, 0, none⟩) k cap) k (l.map Value.string) ∧ w.heap.size + 1 ≤ g ∧ Cur wr w.heap.size A n c bs (2 + 2 * (k : Int)) ∧ Below w.heap.size w wr)
  case atStart => exact ⟨0, w.heap.size + 1, 0, [], Nat.zero_le _, rfl, rfl, rfl, Lib.hid rfl, Lib.hid (by decide), hown1, Nat.le_refl _, hc1.more (by omega), hB1⟩
  case round =>
    obtain ⟨k, g, cap, l, hk, rfl, rfl, rfl, hkl, hsz, hown, hg, hcu, hb⟩ := hrel
    have hgl := (hown.lt g rfl).2
    by_cases hlt : k < N
    · have HC := Lib.hid (c_any1 w.heap.size A n c bs _ wr hcu (by omega) (by omega))
      have Hown := Lib.hid hown
      have Hb := Lib.hid hb
      clear hown hcu hb
      go_wp2_with fail
      refine HC.out.mono ?_
      rintro e w2 ⟨x, rfl, x10, hcu2, gr2⟩
      have hown2 := own_kept Hown.out gr2 (.inr (by simp [Value.ownBlock]; omega))
      have hsz2 := gr2.size
      have hB2 : w.heap.size + 1 ≤ w2.heap.size := by omega
      have Hb2 := Lib.hid (Hb.out.grown gr2 Hb.out.size (fun k hk => by injection hk with hk; omega))
      have Hcu2 := Lib.hid hcu2
      clear hcu2 gr2
      go_wp2_with (at_builtin; refine app1 _ 26 9 (.string ⟨#[]⟩) 16 Try.underlying26 hI_str rfl rfl (.tmp 19) (.tmp 22) rfl (w.heap.size + 1) _ _ _ rfl hown2 (.string x) rfl rfl (by omega) (by omega) hB2 ?_; intro g' cap' w' h1 h2 h3)
      go_roundg (N - (k + 1))
      case measure => omega
      case rel =>
        have hg' : w.heap.size + 1 ≤ g' := by
          rcases h3 with h3 | h3
          · have := Option.some.inj (show some g = some g' from h3); omega
          · omega
        refine ⟨k + 1, g', cap', l ++ [x], by omega, rfl, by go_num, rfl, Lib.hid (by simp [hkl.out]), Lib.hid (by rw [szs_snoc]; have := hsz.out; omega), by rw [List.map_append]; exact h1, hg', ?_, Hb2.out.grown h2 Hb2.out.size (by intro q hq; have := Option.some.inj (show some g = some q from hq); omega)⟩
        refine (Hcu2.out.other h2 (fun e => by have := Option.some.inj (show some g = some w.heap.size from e); omega) (fun h0 b off e e2 => by have h4 := hAw.out h0 b off e; have := Option.some.inj (show some g = some b from e2); omega)).more (by omega)
    · obtain rfl : k = N := by omega
      have HC := Lib.hid (c_one 20 w.heap.size A n c bs _ wr hcu (by omega) (by omega) (by decide) (by decide))
      have Hown := Lib.hid hown
      have Hb := Lib.hid hb
      clear hown hcu hb
      go_wp2_with fail
      refine HC.out.mono ?_
      rintro e w2 ⟨x, rfl, hcu2, gr2⟩
      have hown2 := own_kept Hown.out gr2 (.inr (by simp [Value.ownBlock]; omega))
      have hsz2 := gr2.size
      have hB2 : w.heap.size + 1 ≤ w2.heap.size := by omega
      have Hb2 := Lib.hid (Hb.out.grown gr2 Hb.out.size (fun k hk => by injection hk with hk; omega))
      have Hcu2 := Lib.hid hcu2
      have Hown2 := Lib.hid hown2
      clear hcu2 gr2 hown2
      go_upto_if 25 with fail
      go_cut [5] (fun o wx => ∃ (g cap m : Nat) (l : List ByteArray), o = .slice (some ⟨g, 0, none⟩) m cap ∧ Hid (m = l.length) ∧ m ≤ 4 ∧ Hid (szs l ≤ 5000) ∧
        wx.ownsRow (w.heap.size + 1) 9 1 (.slice (some ⟨g, 0, none⟩) m cap) m (l.map Value.string) ∧ w.heap.size + 1 ≤ g ∧ Cur wx w.heap.size A n c bs 20 ∧ Below w.heap.size w wx)
      case first =>
        cases x
        · go_wp2_with fail
          go_meet
          case rel => exact ⟨g, cap, k, l, rfl, hkl, by omega, Lib.hid (by have := hsz.out; omega), Hown2.out, hg, Hcu2.out.more (by omega), Hb2.out⟩
        · have HP := Lib.hid (c_pick 20 w.heap.size A n c bs _ w2 Hcu2.out (by omega) (by omega) (by decide) (by decide))
          go_wp2_with fail
          refine HP.out.mono ?_
          rintro e w3 ⟨y, rfl, y0, y1, hcu3, gr3⟩
          obtain ⟨z, hz⟩ : ∃ z : Nat, 3990 + y = (z : Int) := Int.eq_ofNat_of_zero_le (by omega)
          have hz4 : z ≤ 4009 := by omega
          have hown3 := own_kept Hown2.out gr3 (.inr (by simp [Value.ownBlock]; omega))
          have hown4 := hown3.alloc (.cells (madeCells #[.int .u8 0] z) 5)
          have hsz3 := gr3.size
          have hB3 : w.heap.size + 1 ≤ (w3.alloc (.cells (madeCells #[.int .u8 0] z) 5)).heap.size := by simp; omega
          have Hb3 := Lib.hid ((Hb2.out.grown gr3 Hb2.out.size (fun k hk => by injection hk with hk; omega)).alloc (by omega) (.cells (madeCells #[.int .u8 0] z) 5))
          have Hcu3 := Lib.hid (hcu3.below ((Below.refl _ w3).alloc (Nat.le_refl _) (.cells (madeCells #[.int .u8 0] z) 5)))
          have hmk := mk_bytes z (by omega)
          have hrow := World.rowIs_made w3 (.int .u8 0) z 5
          have hcv := run_convert_bytes_arg (P := Try.prog) (w3.alloc (.cells (madeCells #[.int .u8 0] z) 5)) 35 5 Try.underlying35 (by kernel_rfl) w3.heap.size 0 z z (List.replicate z 0) (by simp) (fun i hi => by
            rw [Nat.zero_add, hrow.cell hi]
            simp [hi]) 9 (by kernel_rfl)
          have Hss := Lib.hid (strOfNums_size (List.replicate z 0))
          obtain ⟨X, HX⟩ : ∃ X, Hid (strOfNums (List.replicate z 0) = X) := ⟨_, Lib.hid rfl⟩
          rw [HX.out] at hcv Hss
          clear hrow hcu3 gr3 hown3
          go_wp2_with (at_builtin; refine app1n _ (w3.heap.size + 1) (by simp) 26 9 (.string ⟨#[]⟩) 16 Try.underlying26 hI_str rfl rfl (.tmp 26) (.tmp 32) rfl (w.heap.size + 1) _ _ _ rfl hown4 (.string X) rfl rfl (by omega) (by omega) hB3 ?_; intro g' cap' w' h1 h2 h3)
          go_meet
          case rel =>
            have hg' : w.heap.size + 1 ≤ g' := by
              rcases h3 with h3 | h3
              · have := Option.some.inj (show some g = some g' from h3); omega
              · have : w3.heap.size + 1 ≤ g' := by simpa using h3
                omega
            refine ⟨g', cap', k + 1, l ++ [X], rfl, Lib.hid (by simp [hkl.out]), by omega, Lib.hid (by rw [szs_snoc, Hss.out]; have := hsz.out; simp; omega), by rw [List.map_append]; exact h1, hg', ?_, Hb3.out.grown h2 Hb3.out.size (by intro q hq; have := Option.some.inj (show some g = some q from hq); omega)⟩
            refine (Hcu3.out.other h2 (fun e => by have := Option.some.inj (show some g = some w.heap.size from e); omega) (fun h0 b off e e2 => by have h4 := hAw.out h0 b off e; have := Option.some.inj (show some g = some b from e2); omega)).more (by omega)
      case rest =>
        obtain ⟨g, cap, m, l, rfl, hml, hm4, hsz5, hown5, hg5, hcu5, hb5⟩ := hcut
        have hgl5 := (hown5.lt g rfl).2
        have hrx : RdS (wc.alloc (.cells (xs.map Value.string).toArray 9)) (some ⟨wc.heap.size, 0, none⟩) xs.length xs := RdS.of_cells (heap_alloc_new _ _)
        have HO := Lib.hid (c_of (some ⟨wc.heap.size, 0, none⟩) 5 xs (by omega) (by omega) w.heap.size (fun b off e => by injection e with e; injection e with e; omega) A n c bs _ _ hrx (hcu5.below ((Below.refl _ _).alloc (Nat.le_refl _) _)) (by omega) (by omega))
        have Hown5 := Lib.hid (hown5.alloc (.cells (xs.map Value.string).toArray 9))
        have Hb5 := Lib.hid (hb5.alloc hb5.size (.cells (xs.map Value.string).toArray 9))
        rw [hl, Hxs.out] at HO
        rw [Hxs.out] at Hown5 Hb5
        clear hrx hown5 hcu5 hb5 hl
        go_wp2_with fail
        refine HO.out.mono ?_
        rintro e w6 ⟨y, rfl, hy, hc6, gr6⟩
        rw [← Hxs.out] at hy
        have HY := Lib.hid (hsh.out y hy)
        have hown6 := own_kept Hown5.out gr6 (.inr (by simp [Value.ownBlock]; omega))
        have Hown6 := Lib.hid hown6
        have Hb6 := Lib.hid (Hb5.out.grown gr6 Hb5.out.size (fun k hk => by injection hk with hk; omega))
        have hcap := own_cap hown6
        clear hy hown6 gr6 hc6
        go_wp2_with fail
        refine bodyPost_ret (results_tmp2 rfl _ _ _) rfl ⟨some ⟨g, 0, none⟩, cap, l, y, ?_, ?_, hsz5.out, ?_, ?_, HY.out, Hb6.out⟩
        · rw [← hml.out]; rfl
        · rw [OwnS, ← hml.out]; exact ownsRow_low Hown6.out (by omega)
        · rw [← hml.out]; exact hm4
        · rw [← hml.out]; exact hcap
end Go.Proofs.Ytppaplgeecojgaa
