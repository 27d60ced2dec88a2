/- The program's winning positions: winning, WinningHeaps; the walk of its law. -/
import Derived.Test.YtoeacocijcammaaLmE
import Derived.Test.YtoeacocijcammaaLmA
namespace Go.Proofs.Ytoeacocijcammaa
open Go.RowKit

/-- Rows that are owned, none in block g. -/
def OwnFar (w : World) (base g : Nat) (rs : List Row) : Prop := ∀ r ∈ rs, r.own w base ∧ (r.blk = none ∨ r.blk ≠ some g)
theorem OwnFar.after {w w' : World} {base g g' : Nat} {rs : List Row} (h : OwnFar w base g rs) (hg : w.grownBy w' (some g)) (h3 : some g = some g' ∨ w.heap.size ≤ g') : OwnFar w' base g' rs := fun r hr => by
  obtain ⟨h1, h2⟩ := h r hr
  refine ⟨own_kept h1 hg h2, ?_⟩
  cases e : r.blk with
  | none => exact .inl rfl
  | some k =>
    refine .inr (fun e2 => ?_)
    have e3 : k = g' := Option.some.inj e2
    have h4 := (h1.lt k e).2
    rcases h3 with h3 | h3
    · have h5 := Option.some.inj h3
      rcases h2 with h2 | h2
      · rw [e] at h2; cases h2
      · exact h2 (by rw [e, e3, h5])
    · omega
theorem filter_take_succ {q : Row → Bool} {rs : List Row} {k : Nat} (h : k < rs.length) : (rs.take (k + 1)).filter q = if q rs[k] then (rs.take k).filter q ++ [rs[k]] else (rs.take k).filter q := by
  rw [List.take_succ_eq_append_getElem h, List.filter_append]
  cases hq : q rs[k] <;> simp [hq]
theorem nums_filter (q : List Int → Bool) : ∀ (rs : List Row), nums (rs.filter fun r => q r.xs) = (nums rs).filter q
  | [] => rfl
  | r :: l => by
    have ih := nums_filter q l
    unfold nums at *
    cases h : q r.xs <;> simp [List.filter_cons, h, ih]
theorem win_facts {xs hs p : List Int} (h : p ∈ rch xs hs) : ∃ i m, i < hs.length ∧ m ∈ moves xs (hs.getD i 0).toNat ∧ p = aft hs i m := cand_facts (rch_mem.1 h)

set_option maxRecDepth 100000 in
set_option maxHeartbeats 3200000 in
theorem c_winning (bnd : Bnd) (A : Option Addr) (c : Nat) (xs : List Int) (B : Option Addr) (n d : Nat) (hs : List Int) (V : Option Addr) (cv : Nat) (w : World) (rd : RdI w A xs.length xs) (hg : goodC xs = true) (rh : RdI w B n hs) (rt : Tbl w V 301 xs) (hpos : ∀ x ∈ hs, x ≤ 300) (hsum : (fil hs).sum ≤ 6000) (hn : n ≤ 6100) :
    Calls Try.prog 59 #[.slice A xs.length c, .slice B n d, .slice V 301 cv] w fun e w' => ∃ g c' rs, e = .returned (.slice (some ⟨g, 0, none⟩) rs.length c') ∧ Rc w w' g c' rs (win xs (fil hs)) := by
  have hl : Hid (hs.length = n) := Lib.hid rh.len
  have hFl : (fil hs).length ≤ n := by have := List.length_filter_le (fun x => decide (0 < x)) hs; unfold fil; rw [hl.out] at this; exact this
  have HF : Hid (∀ x ∈ fil hs, 1 ≤ x ∧ x ≤ 300) := Lib.hid (fun x hx => by have := fil_mem.1 hx; have := hpos x this.1; omega)
  have b0 : Below w.heap.size w (w.alloc (.cells #[] 22)) := (Below.refl _ _).alloc (Nat.le_refl _) _
  have HC := c_reached A c xs B n d hs _ (rd.below b0) hg (rh.below b0) hpos hsum hn
  have RT := Lib.hid rt
  have Hbn := Lib.hid (bnd xs hg)
  obtain ⟨F, hF⟩ : ∃ F, Hid (fil hs = F) := ⟨_, Lib.hid rfl⟩
  rw [hF.out] at hFl HF HC ⊢
  have Hrl : Hid (∀ p ∈ rch xs F, p.length ≤ n + 1 ∧ ∀ x ∈ p, 0 ≤ x ∧ x < 301) := Lib.hid (fun p hp => by
    refine ⟨by have := cand_len (rch_mem.1 hp); omega, fun x hx => ?_⟩
    obtain ⟨i, m, hi, hm, rfl⟩ := win_facts hp
    rcases aft_mem hx with h | h
    · have := HF.out x h; omega
    · have h1 := (mvs_facts (moves_mem.1 hm)).2.2 x h
      have h2 := HF.out _ (mem_getD hi)
      omega)
  have Hrc : Hid ((rch xs F).length ≤ 108000) := Lib.hid (by
    have h1 := putAll_len (cand xs F) []
    have h2 := candTo_len (xs := xs) (hs := F) (goodC_iff.1 hg).2.1 (fun x hx => by have := HF.out x hx; omega) F.length (Nat.le_refl _)
    rw [List.take_length] at h2
    unfold rch cand at *
    simp at h1
    rw [hF.out] at hsum
    omega)
  clear hpos hsum rd rh rt hg bnd
  go_enter Try.func59, Try.ntmps59
  go_wp2_with fail
  refine HC.mono ?_
  rintro e w1 ⟨gR, cR, rsR, rfl, hR⟩
  have hR0 : rsR.length = (rch xs F).length := hR.len
  have hlR : rsR.length ≤ 108000 := by rw [hR0]; exact Hrc.out
  have EN := Lib.hid hR.num
  have HAp := Lib.hid hR.own.apart
  have hstart : Hid (Rc w w1 w.heap.size 0 [] []) := Lib.hid ⟨(OwnL.lit0 w _ (Nat.le_refl _)).below hR.below, rfl, b0.trans (hR.below.mono (by simp))⟩
  have hfar := hR.own.far (g := w.heap.size) (by simp)
  have hFV := Lib.hid hfar.2
  have hOF : Hid (OwnFar w1 w.heap.size w.heap.size rsR) := Lib.hid (fun r hr => ⟨own_low (hR.own.rows r hr) (by simp), by
    cases e : r.blk with
    | none => exact .inl rfl
    | some k =>
      refine .inr (fun e2 => ?_)
      have e3 : k = w.heap.size := Option.some.inj e2
      have := ((hR.own.rows r hr).lt k e).1
      simp at this; omega⟩)
  clear hfar hR HC b0 hR0
  go_wp2_with fail
  go_loopg [7, 18] rsR.length (fun m v i wx => ∃ (k g c' : Nat) (ro : List Row) (wv : World), wv = wx ∧ k ≤ rsR.length ∧ m = rsR.length - k ∧ i = .int .i64 k ∧ v = .slice (some ⟨g, 0, none⟩) ro.length c' ∧
    Hid (ro = (rsR.take k).filter fun r => val0 xs r.xs) ∧ Hid (Rc w wv g c' ro (nums ro)) ∧ Hid (FarV wv g (some ⟨gR, 0, none⟩) rsR.length (rsR.map Row.val)) ∧ Hid (OwnFar wv w.heap.size g rsR))
  case atStart => exact ⟨0, w.heap.size, 0, [], _, rfl, Nat.zero_le _, rfl, rfl, rfl, Lib.hid rfl, hstart, hFV, hOF⟩
  case round =>
    obtain ⟨k, g, c', ro, wv, rfl, hk, rfl, rfl, rfl, hro, hR, hfv, hof⟩ := hrel
    have hrol : ro.length ≤ 108000 := by
      rw [hro.out]
      have := List.length_filter_le (fun r : Row => val0 xs r.xs) (rsR.take k)
      rw [List.length_take] at this; omega
    clear hstart hFV hOF
    by_cases hlt : k < rsR.length
    · have hrm : rsR[k] ∈ rsR := List.getElem_mem hlt
      have hrv : (rsR.map Row.val)[k]? = some rsR[k].val := by simp [hlt]
      obtain ⟨_, _, e, _, hcv⟩ := RdV.at_ hfv.out.1 hlt
      cases e
      have hcv := hcv k _ hrv
      rw [Nat.zero_add] at hcv
      have hsn := Lib.hid (filter_take_succ (q := fun r => val0 xs r.xs) hlt)
      have hown := hof.out _ hrm
      have hpr : rsR[k].xs ∈ rch xs F := by rw [← EN.out]; exact List.mem_map_of_mem hrm
      have hpf := Hrl.out _ hpr
      have hap : Hid (∀ s ∈ ro, s.blk = none ∨ s.blk ≠ rsR[k].blk) := Lib.hid (fun s hs => by
        rw [hro.out] at hs
        have hs1 := (List.mem_filter.1 hs).1
        obtain ⟨j, hj, rfl⟩ := List.mem_take_iff_getElem.1 hs1
        exact List.pairwise_iff_getElem.1 HAp.out j k (by omega) hlt (by omega))
      generalize hrdef : rsR[k] = r at *
      have Hown := Lib.hid hown
      have hrr : RdI wv r.A r.xs.length r.xs := OwnI.rd hown.1
      have Hpf := Lib.hid hpf.2
      have hpl := hpf.1
      have hlt2 : (k : Int) < (rsR.length : Int) := by omega
      have HT := Lib.hid (RT.out.below hR.out.below)
      obtain ⟨z, hz⟩ : ∃ z, Hid (xorF xs 0 r.xs = z) := ⟨_, Lib.hid rfl⟩
      have hcv2 : wv.cell? ⟨gR, k, none⟩ = some (.slice r.A r.xs.length r.c) := hcv
      clear hcv hrm hrv hown hpr hpf hrdef
      go_wp2_with fail
      go_loop [10, 24] (fun x i => ∃ (j acc : Nat), j ≤ r.xs.length ∧ i = .int .i64 j ∧ x = .int .i64 acc ∧ acc ≤ 255 ∧ Hid (xorF xs acc (r.xs.drop j) = z)) (fun _ i => r.xs.length - (intOf i).toNat)
      case atStart => exact ⟨0, 0, Nat.zero_le _, rfl, rfl, by omega, Lib.hid (by simpa using hz.out)⟩
      case round =>
        obtain ⟨j, acc, hj, rfl, rfl, hacc, hrem⟩ := hrel
        by_cases hj2 : j < r.xs.length
        · obtain ⟨b2, off2, hbA, _, hcx⟩ := hrr.at_ hj2
          obtain ⟨y, hy⟩ : ∃ y : Nat, r.xs.getD j 0 = (y : Int) := Int.eq_ofNat_of_zero_le (Hpf.out _ (mem_getD hj2)).1
          have hyt : y < 301 := by have := (Hpf.out _ (mem_getD hj2)).2; omega
          have hyi : (y : Int) < 301 := by omega
          have hd : Hid (r.xs.drop j = (y : Int) :: r.xs.drop (j + 1)) := Lib.hid (by rw [drop_cons hj2, hy])
          rw [hy] at hcx
          obtain ⟨b3, off3, hbV, _, hcw⟩ := RdV.at_ HT.out (k := y) hyt
          have hcw := hcw y _ (natC_get (by rw [vals_len]; exact hyt))
          rw [hV_get xs hyt] at hcw
          have hx5 : hV xs y ≤ 255 := Hbn.out y (by omega)
          have hrem' : Hid (xorF xs (acc ^^^ hV xs y) (r.xs.drop (j + 1)) = z) := Lib.hid (by rw [← hrem.out, hd.out]; simp [xorF])
          generalize hV xs y = v at *
          have hX : bits .xor .i64 (acc : Int) (v : Int) = ((acc ^^^ v : Nat) : Int) := i64_xor_nat acc v (by omega) (by omega)
          have h255 := xor255 hacc hx5
          have hj3 : (j : Int) < (r.xs.length : Int) := by omega
          clear hy hcv2
          rw [hbA, hbV]
          go_wp2_with fail
          go_round
          case rel => exact ⟨j + 1, acc ^^^ v, by omega, by go_num, rfl, h255, hrem'⟩
          case measure => simp [intOf]; omega
        · have hacz : acc = z := by have := hrem.out; rwa [List.drop_of_length_le (by omega)] at this
          subst hacz
          by_cases h0 : acc = 0
          · have hvv : Hid (val0 xs r.xs = true) := Lib.hid (by unfold val0; rw [hz.out, h0]; rfl)
            have hz1 : ((acc : Int) == 0) = true := by simpa using h0
            have hB : w.heap.size ≤ wv.heap.size := hR.out.below.size
            have hout := Lib.hid hR.out.own.outer
            clear h0
            go_wp2_with (at_builtin; refine app1 _ 23 22 (.slice none 0 0) 24 Try.underlying23 hI_row rfl rfl (.tmp 37) (.tmp 39) rfl w.heap.size _ _ _ rfl hout.out (.slice r.A r.xs.length r.c) rfl rfl (by omega) (by omega) hB ?_; intro g' cap' w' h1 h2 h3)
            have fR : Hid (Rc w w' g' cap' (ro ++ [r]) (nums (ro ++ [r]))) := Lib.hid ⟨OwnL.add hR.out.own h1 h2 h3 Hown.out.1 Hown.out.2 hap.out, rfl, hR.out.below.grown h2 hB (fun j hj => by
              have := Option.some.inj (show some g = some j from hj)
              have := (hout.out.lt g rfl).1
              omega)⟩
            have f1 := Lib.hid (hfv.out.after (Below.refl _ _) h2 h3)
            have f2 := Lib.hid (hof.out.after h2 h3)
            have fl : Hid ((ro ++ [r]).length = ro.length + 1) := Lib.hid (by simp)
            clear h1 h2 h3
            go_roundg (rsR.length - (k + 1))
            case measure => omega
            case rel => exact ⟨k + 1, g', cap', ro ++ [r], _, rfl, by omega, rfl, by go_num, by rw [fl.out], Lib.hid (by rw [hsn.out, if_pos hvv.out, ← hro.out]), fR, f1, f2⟩
          · have hvv : Hid (val0 xs r.xs = false) := Lib.hid (by unfold val0; rw [hz.out]; simpa using h0)
            have hz1 : ((acc : Int) == 0) = false := by simpa using h0
            clear h0
            go_wp2_with fail
            go_roundg (rsR.length - (k + 1))
            case measure => omega
            case rel => exact ⟨k + 1, g, c', ro, _, rfl, by omega, rfl, by go_num, rfl, Lib.hid (by rw [hsn.out, if_neg (by rw [hvv.out]; decide), ← hro.out]), hR, hfv, hof⟩
    · obtain rfl : k = rsR.length := by omega
      have fin : Hid (nums ro = win xs F) := Lib.hid (by rw [hro.out, List.take_length, nums_filter, EN.out]; rfl)
      go_wp2_with fail
      go_ret
      exact ⟨g, c', ro, rfl, by rw [← fin.out]; exact hR.out⟩
set_option maxHeartbeats 1600000 in
theorem c_WinningHeaps (bnd : Bnd) (A B : Option Addr) (c d : Nat) (xs hs : List Int) (w : World) (rd : RdI w A xs.length xs) (rh : RdI w B hs.length hs) :
    Calls Try.prog 36 #[.slice A xs.length c, .slice B hs.length d] w (OwnP w (whC xs hs)) := by
  have HG := Lib.hid (c_GoodCode A c xs w rd)
  have HH := Lib.hid (c_goodHeaps B d hs w rh)
  cases hg : goodC xs
  · have fin := Lib.hid (whC_code (hs := hs) hg)
    rw [hg] at HG
    clear hg
    go_enter Try.func36, Try.ntmps36
    go_wp2_with (go_at_call 23; refine HG.out.mono ?_; rintro e w' ⟨rfl, rfl⟩)
    exact bodyPost_ret (results_tmp2 rfl _ _ _) rfl (OwnP.none fin.out rfl (Below.refl _ _))
  · rw [hg] at HG
    cases hb : goodH hs
    · have fin := Lib.hid (whC_heaps (xs := xs) hb)
      rw [hb] at HH
      clear hg hb
      go_enter Try.func36, Try.ntmps36
      go_wp2_with (first | (go_at_call 23; refine HG.out.mono ?_; rintro e w' ⟨rfl, rfl⟩) | (go_at_call 56; refine HH.out.mono ?_; rintro e w' ⟨rfl, rfl⟩))
      exact bodyPost_ret (results_tmp2 rfl _ _ _) rfl (OwnP.none fin.out rfl (Below.refl _ _))
    · obtain ⟨hl, hup, hrng, hsum⟩ := goodH_facts hb
      have fin := Lib.hid (whC_in hg hb)
      rw [hb] at HH
      have HV := Lib.hid (c_values_all bnd A c xs w rd hg)
      have hsum2 : (fil hs).sum ≤ 6000 := by
        obtain ⟨z, e, _⟩ := up_split hup (fun x hx => (hrng x hx).1)
        have h1 : hs.sum = (fil hs).sum := by
          have h2 : ∀ z : Nat, (List.replicate z (0 : Int)).sum = 0 := by
            intro z; induction z with
            | zero => rfl
            | succ z ih => rw [List.replicate_succ, List.sum_cons, ih]; rfl
          conv => lhs; rw [e]
          rw [List.sum_append, h2]; omega
        omega
      have Hg := Lib.hid hg
      have RD := Lib.hid rd
      have RH := Lib.hid rh
      have Hrng := Lib.hid (fun x (hx : x ∈ hs) => (hrng x hx).2)
      clear hg hb hup hrng rd rh
      go_enter Try.func36, Try.ntmps36
      go_wp2_with (first | (go_at_call 23; refine HG.out.mono ?_; rintro e w' ⟨rfl, rfl⟩) | (go_at_call 56; refine HH.out.mono ?_; rintro e w' ⟨rfl, rfl⟩))
      refine HV.out.mono ?_
      rintro e w1 ⟨V, cv, rfl, o1, b1⟩
      have B1 := Lib.hid b1
      have HW := c_winning bnd A c xs B hs.length d hs V cv w1 (RD.out.below b1) Hg.out (RH.out.below b1) (RdV.of_own o1) Hrng.out hsum2 (by omega)
      clear o1 b1
      go_wp2_with fail
      refine HW.mono ?_
      rintro e w2 ⟨g2, c2, rs2, rfl, hR⟩
      have HR := Lib.hid hR
      have E2 : Hid (rs2.length = (win xs (fil hs)).length) := Lib.hid hR.len
      clear hR
      go_wp2_with fail
      refine bodyPost_ret (results_tmp2 rfl _ _ _) rfl ⟨some ⟨g2, 0, none⟩, c2, rs2, ?_, HR.out.own.low B1.out.size, ?_, Below.next B1.out HR.out.below⟩
      · rw [fin.out]
        show _ = Ending.returned (.tuple #[.slice _ (win xs (fil hs)).length _, .bool true])
        rw [← E2.out]; rfl
      · rw [fin.out]; exact HR.out.num
theorem whC_small (xs hs : List Int) : SmallL (whC xs hs).1 := by
  unfold whC
  split
  · rename_i h
    simp only [Bool.and_eq_true] at h
    obtain ⟨hl, hup, hrng, hsum⟩ := goodH_facts h.2
    have hF : (fil hs).length ≤ 20 := Nat.le_trans (List.length_filter_le _ _) hl
    have h1 : (win xs (fil hs)).length ≤ 108000 := by
      have h2 := List.length_filter_le (val0 xs) (rch xs (fil hs))
      have h3 := putAll_len (cand xs (fil hs)) []
      have h4 := candTo_len (xs := xs) (hs := fil hs) (goodC_iff.1 h.1).2.1 (fun x hx => by have := (fil_mem.1 hx).2; omega) (fil hs).length (Nat.le_refl _)
      rw [List.take_length] at h4
      have h5 := sum_le (b := 300) (by decide) (hs := fil hs) (fun x hx => (hrng x (fil_mem.1 hx).1).2)
      unfold win rch cand at *
      simp at h3
      omega
    have h2 : ∀ m ∈ win xs (fil hs), m.length ≤ 21 := fun m hm => by
      have := cand_len (rch_mem.1 (List.mem_filter.1 hm).1); omega
    have h3 := tot_le h2
    exact ⟨by show (win xs (fil hs)).length ≤ _; omega, fun m hm => by have := h2 m hm; omega, by show tot (win xs (fil hs)) ≤ _; omega⟩
  · exact SmallL.nil
set_option maxRecDepth 100000 in
set_option maxHeartbeats 3200000 in
theorem w_FnExactWinningHeaps_of (A0 : Option Addr) (len0 c0 : Nat) (ys0 : List Int) (A1 : Option Addr) (len1 c1 : Nat) (ys1 : List Int) (w : World) (rd0 : RdV w A0 len0 (ys0.map (Value.int .i64))) (_f0 : Fits .i64 ys0) (_m0 : len0 ≤ maxLen) (rd1 : RdV w A1 len1 (ys1.map (Value.int .i64))) (_f1 : Fits .i64 ys1) (_m1 : len1 ≤ maxLen) (m : List (List Int) × Bool)
    (Hm : ys0.length ≤ 1048576 → ys1.length ≤ 1048576 → SmallL m.1)
    (HS : ys0.length ≤ 1048576 → ys1.length ≤ 1048576 → (∀ (g0 : Nat) (g1 : Nat) (w : World), RdI w (some ⟨g0, 0, none⟩) ys0.length ys0 → RdI w (some ⟨g1, 0, none⟩) ys1.length ys1 → Calls Try.prog 35 #[.slice (some ⟨g0, 0, none⟩) ys0.length ys0.length, .slice (some ⟨g1, 0, none⟩) ys1.length ys1.length] w (ReadP w m)))
    (HC : ys0.length ≤ 1048576 → ys1.length ≤ 1048576 → (∀ (g0 : Nat) (g1 : Nat) (w : World), RdI w (some ⟨g0, 0, none⟩) ys0.length ys0 → RdI w (some ⟨g1, 0, none⟩) ys1.length ys1 → Calls Try.prog 36 #[.slice (some ⟨g0, 0, none⟩) ys0.length ys0.length, .slice (some ⟨g1, 0, none⟩) ys1.length ys1.length] w (OwnP w m))) :
    Calls Try.prog 7 #[.slice A0 len0 c0, .slice A1 len1 c1] w fun e w' => e = .returned (.bool true) ∧ Below w.heap.size w w' := by
  have rd0 : RdI w A0 len0 ys0 := rd0
  obtain rfl := rd0.len
  have rd1 : RdI w A1 len1 ys1 := rd1
  obtain rfl := rd1.len
  clear _f0 _m0 _f1 _m1
  by_cases hn0 : ys0.length ≤ 1048576
  rotate_left
  · have hx : ¬ (ys0.length : Int) ≤ 1048576 := by omega
    have hx2 : (1048576 : Int) < (ys0.length : Int) := by omega
    go_enter Try.func7, Try.ntmps7
    go_wp2_with fail
    go_ret
    exact ⟨rfl, Below.refl _ _⟩
  by_cases hn1 : ys1.length ≤ 1048576
  rotate_left
  · have hx : ¬ (ys1.length : Int) ≤ 1048576 := by omega
    have hx2 : (1048576 : Int) < (ys1.length : Int) := by omega
    go_enter Try.func7, Try.ntmps7
    go_wp2_with fail
    go_ret
    exact ⟨rfl, Below.refl _ _⟩
  have Hm := Hm hn0 hn1
  have HS := HS hn0 hn1
  have HC := HC hn0 hn1
  obtain ⟨ms, ok⟩ := m
  obtain ⟨hl1, hl2, hl3⟩ := Hm
  simp only at hl1 hl2 hl3
  have Hl2 := Lib.hid hl2
  have Hl7 : Hid (∀ m ∈ ms, m.length ≤ 10000000) := Lib.hid (fun m hm => Nat.le_trans (hl2 m hm) (by decide))
  clear hl2
  go_enter Try.func7, Try.ntmps7
  have C0 : Below w.heap.size w w := Below.refl _ _
  go_wp2_with fail
  refine (c_toIntS _ _ _ ys0 _ (rd0.below C0) hn0).mono ?_
  rintro e v1 ⟨gv1, rfl, _, tv1, bv1⟩
  have C0 := Below.next C0 bv1
  go_wp2_with fail
  refine (c_toIntS _ _ _ ys1 _ (rd1.below C0) hn1).mono ?_
  rintro e v2 ⟨gv2, rfl, _, tv2, bv2⟩
  have C0 := Below.next C0 bv2
  have tv1 := RdI.below tv1 bv2
  go_wp2_with fail
  refine (HS _ _ _ tv1 tv2).mono ?_
  rintro e w1 ⟨A1, cc1, rs1, rfl, r1, e1, b1⟩
  have E1 := Lib.hid e1
  clear e1
  have C0 := Below.next C0 b1
  have C1 : Below w1.heap.size w1 w1 := Below.refl _ _
  have B01 : w.heap.size ≤ w1.heap.size := C0.size
  go_wp2_with fail
  refine (c_toIntS_own _ _ _ ys0 _ (rd0.below C0) hn0).mono ?_
  rintro e v3 ⟨gv3, rfl, x0, bv3⟩
  have C0 := Below.next C0 bv3
  have C1 := Below.next C1 bv3
  have X0 := x0
  have S0 : w1.heap.size ≤ v3.heap.size := C1.size
  have LP0 : w1.heap.size ≤ w1.heap.size := Nat.le_refl _
  have LO0 : w.heap.size ≤ w1.heap.size := Nat.le_trans B01 LP0
  go_wp2_with fail
  refine (c_toIntS_own _ _ _ ys1 _ (rd1.below C0) hn1).mono ?_
  rintro e v4 ⟨gv4, rfl, x1, bv4⟩
  have C0 := Below.next C0 bv4
  have C1 := Below.next C1 bv4
  have x0 := own_below x0 bv4
  have X1 := x1
  have S1 : w1.heap.size ≤ v4.heap.size := C1.size
  have LP1 : w1.heap.size ≤ v3.heap.size := S0
  have LO1 : w.heap.size ≤ v3.heap.size := Nat.le_trans B01 LP1
  go_wp2_with fail
  refine (HC _ _ _ (OwnI.rd x0) (OwnI.rd x1)).mono ?_
  rintro e w2 ⟨A2, cc2, rs2, rfl, o2, e2, b2⟩
  have E2 := Lib.hid e2
  have HL2 : Hid (rs2.length = ms.length) := Lib.hid (by have := congrArg List.length e2; simpa using this)
  clear e2
  have C0 := Below.next C0 b2
  have C1 := Below.next C1 b2
  have x0 := own_below x0 b2
  have x1 := own_below x1 b2
  have SB : w1.heap.size ≤ v4.heap.size := S1
  have LOG : w.heap.size ≤ v4.heap.size := Nat.le_trans B01 SB
  have LG0 : v3.heap.size ≤ v4.heap.size := Nat.le_trans (Nat.le_refl _) bv4.size
  have LG1 : v4.heap.size ≤ v4.heap.size := Nat.le_refl _
  go_wp2_with fail
  refine (c_eqIntSS_same _ _ _ _ _ rs2 rs1 _ (o2.rdm HL2.out) (r1.below C1) (E2.out.trans E1.out.symm) (by omega) (hlen_of Hl2.out E2.out)).mono ?_
  rintro e v5 ⟨rfl, qv5⟩
  have bv5 := qv5.below
  have C0 := Below.next C0 bv5
  have C1 := Below.next C1 bv5
  have x0 := own_below x0 bv5
  have x1 := own_below x1 bv5
  have o2 := o2.below bv5
  go_wp2_with fail
  refine (c_toIntS _ _ _ ys0 _ (rd0.below C0) hn0).mono ?_
  rintro e v6 ⟨gv6, rfl, _, tv6, bv6⟩
  have C0 := Below.next C0 bv6
  have C1 := Below.next C1 bv6
  have x0 := own_below x0 bv6
  have x1 := own_below x1 bv6
  have o2 := o2.below bv6
  go_wp2_with fail
  refine (c_eqIntS_same _ _ _ _ _ ys0 _ (OwnI.rd x0) tv6 hn0).mono ?_
  rintro e v7 ⟨rfl, qv7⟩
  have bv7 := qv7.below
  have C0 := Below.next C0 bv7
  have C1 := Below.next C1 bv7
  have x0 := own_below x0 bv7
  have x1 := own_below x1 bv7
  have o2 := o2.below bv7
  go_wp2_with fail
  refine (c_toIntS _ _ _ ys1 _ (rd1.below C0) hn1).mono ?_
  rintro e v8 ⟨gv8, rfl, _, tv8, bv8⟩
  have C0 := Below.next C0 bv8
  have C1 := Below.next C1 bv8
  have x0 := own_below x0 bv8
  have x1 := own_below x1 bv8
  have o2 := o2.below bv8
  go_wp2_with fail
  refine (c_eqIntS_same _ _ _ _ _ ys1 _ (OwnI.rd x1) tv8 hn1).mono ?_
  rintro e v9 ⟨rfl, qv9⟩
  have bv9 := qv9.below
  have C0 := Below.next C0 bv9
  have C1 := Below.next C1 bv9
  have x0 := own_below x0 bv9
  have x1 := own_below x1 bv9
  have o2 := o2.below bv9
  have hz0 : (0 : Int) ≤ 1 := by omega
  go_wp2_with fail
  refine (c_markIntS _ _ _ ys0 _ _ x0 (by omega) (by omega) (by omega)).mono ?_
  rintro e v10 ⟨rfl, _, kv10⟩
  have C0 := C0.grown kv10 C0.size (fun j hj => Nat.le_trans LO0 (x0.lt j hj).1)
  have C1 := C1.grown kv10 C1.size (fun j hj => Nat.le_trans LP0 (x0.lt j hj).1)
  have x1 := OwnI.apart x1 X0 (Nat.le_refl _) kv10
  have o2 := o2.other X0 LG0 kv10
  have hz1 : (0 : Int) ≤ 1 + (ys0.length : Int) := by omega
  go_wp2_with fail
  refine (c_markIntS _ _ _ ys1 _ _ x1 (by omega) (by omega) (by omega)).mono ?_
  rintro e v11 ⟨rfl, _, kv11⟩
  have C0 := C0.grown kv11 C0.size (fun j hj => Nat.le_trans LO1 (x1.lt j hj).1)
  have C1 := C1.grown kv11 C1.size (fun j hj => Nat.le_trans LP1 (x1.lt j hj).1)
  have o2 := o2.other X1 LG1 kv11
  have hz : (0 : Int) ≤ 1 + (ys0.length : Int) + (ys1.length : Int) := by omega
  go_wp2_with fail
  refine (c_eqIntSS_same _ _ _ _ _ rs2 rs1 _ (o2.rdm HL2.out) (r1.below C1) (E2.out.trans E1.out.symm) (by omega) (hlen_of Hl2.out E2.out)).mono ?_
  rintro e v12 ⟨rfl, qv12⟩
  have bv12 := qv12.below
  have C0 := Below.next C0 bv12
  have C1 := Below.next C1 bv12
  have o2 := o2.below bv12
  clear hz hz0 hz1
  have HM := c_markIntSS _ _ _ rs2 1 _ o2 (by rw [HL2.out]; omega) (by rw [E2.out]; exact hl3) (by rw [E2.out]; exact Hl7.out) (by decide) (by decide)
  rw [HL2.out, E2.out] at HM
  go_wp2_with fail
  refine HM.mono ?_
  rintro e v13 ⟨rfl, rs3, hl4, o3, e3, k3⟩
  have C0 := Below.trans C0 (k3.mono LOG)
  have C1 := Below.trans C1 (k3.mono SB)
  have r3 := o3.rd
  rw [hl4] at r3
  have E3 := Lib.hid e3
  have hz2 : (0 : Int) ≤ 1 + (tot ms : Int) := by omega
  clear HM
  clear e3 hl4 o3
  go_wp2_with fail
  refine (c_heldIntSS _ _ _ rs3 ms _ _ r3 E3.out (by omega) hl3 Hl7.out (by decide) (by decide)).mono ?_
  rintro e v14 ⟨rfl, rfl⟩
  go_wp2_with fail
  refine (c_toIntS _ _ _ ys0 _ (rd0.below C0) hn0).mono ?_
  rintro e v15 ⟨gv15, rfl, _, tv15, bv15⟩
  have C0 := Below.next C0 bv15
  have C1 := Below.next C1 bv15
  have r3 := r3.below bv15
  go_wp2_with fail
  refine (c_toIntS _ _ _ ys1 _ (rd1.below C0) hn1).mono ?_
  rintro e v16 ⟨gv16, rfl, _, tv16, bv16⟩
  have C0 := Below.next C0 bv16
  have C1 := Below.next C1 bv16
  have tv15 := RdI.below tv15 bv16
  have r3 := r3.below bv16
  go_wp2_with fail
  refine (HC _ _ _ tv15 tv16).mono ?_
  rintro e w4 ⟨A4, cc4, rs4, rfl, o4, e4, b4⟩
  have E4 := Lib.hid e4
  have HL4 : Hid (rs4.length = ms.length) := Lib.hid (by have := congrArg List.length e4; simpa using this)
  clear e4
  have C0 := Below.next C0 b4
  have C1 := Below.next C1 b4
  have r3 := r3.below b4
  go_wp2_with fail
  refine (c_eqIntSS_same _ _ _ _ _ rs4 rs1 _ (o4.rdm HL4.out) (r1.below C1) (E4.out.trans E1.out.symm) (by omega) (hlen_of Hl2.out E4.out)).mono ?_
  rintro e v17 ⟨rfl, qv17⟩
  have bv17 := qv17.below
  have C0 := Below.next C0 bv17
  have C1 := Below.next C1 bv17
  have r3 := r3.below bv17
  go_wp2_with fail
  refine (c_heldIntSS _ _ _ rs3 ms _ _ r3 E3.out (by omega) hl3 Hl7.out (by decide) (by decide)).mono ?_
  rintro e v18 ⟨rfl, rfl⟩
  go_wp2_with fail
  go_ret
  exact ⟨rfl, C0⟩
theorem w_FnExactWinningHeaps_of2 (bnd : Bnd) (A : Option Addr) (n c : Nat) (xs : List Int) (B : Option Addr) (m d : Nat) (hs : List Int) (w : World) (rd : RdV w A n (xs.map (Value.int .i64))) (f : Fits .i64 xs) (h : n ≤ maxLen)
    (rh : RdV w B m (hs.map (Value.int .i64))) (f' : Fits .i64 hs) (h' : m ≤ maxLen) :
    Calls Try.prog 7 #[.slice A n c, .slice B m d] w fun e w' => e = .returned (.bool true) ∧ Below w.heap.size w w' :=
  w_FnExactWinningHeaps_of A n c xs B m d hs w rd f h rh f' h' (whC xs hs) (fun _ _ => whC_small xs hs) (fun h1 h2 g0 g1 w r0 r1 => s_WinningHeaps bnd (some ⟨g0, 0, none⟩) _ g1 0 _ xs hs w r0 r1 (Nat.le_refl _) h1 h2)
    (fun _ _ g0 g1 w r0 r1 => c_WinningHeaps bnd (some ⟨g0, 0, none⟩) (some ⟨g1, 0, none⟩) _ _ xs hs w r0 r1)
end Go.Proofs.Ytoeacocijcammaa
