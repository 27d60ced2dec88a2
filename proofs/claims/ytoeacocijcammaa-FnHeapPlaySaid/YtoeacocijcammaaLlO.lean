/- The reference's winning positions: l17Value, l17Winning, WinningHeaps. -/
import Derived.Test.YtoeacocijcammaaLlN
import Derived.Test.YtoeacocijcammaaMvP
import Derived.Test.YtoeacocijcammaaHvE
namespace Go.Proofs.Ytoeacocijcammaa
open Go.RowKit

/-- The values of heaps below N, as a slice that is read. -/
abbrev Tbl (w : World) (V : Option Addr) (N : Nat) (xs : List Int) : Prop := RdV w V N (natC (vals xs N))
set_option maxHeartbeats 800000 in
theorem s_l17Value (bnd : Bnd) (V : Option Addr) (N cv : Nat) (xs : List Int) (B : Option Addr) (m d : Nat) (p : List Int) (w : World) (rt : Tbl w V N xs) (hN : N ≤ 301) (rp : RdI w B m p) (hp : ∀ x ∈ p, 0 ≤ x ∧ x < N) (hg : goodC xs = true) (hm : m ≤ 1000000) :
    Calls Try.prog 68 #[.slice V N cv, .slice B m d] w fun e w' => e = .returned (.int .i64 (xorF xs 0 p : Nat)) ∧ w = w' := by
  have hl : Hid (p.length = m) := Lib.hid rp.len
  obtain ⟨z, hz⟩ : ∃ z, Hid (xorF xs 0 p = z) := ⟨_, Lib.hid rfl⟩
  rw [hz.out]
  have Hp := Lib.hid hp
  have hbn := Lib.hid (bnd xs hg)
  clear bnd hp hg
  go_enter Try.func68, Try.ntmps68
  go_wp2_with fail
  go_loop [5, 6] (fun x i => ∃ (k acc : Nat), k ≤ m ∧ i = .int .i64 k ∧ x = .int .i64 acc ∧ acc ≤ 255 ∧ Hid (xorF xs acc (p.drop k) = z)) (fun _ i => m - (intOf i).toNat)
  case atStart => exact ⟨0, 0, Nat.zero_le _, rfl, rfl, by omega, Lib.hid (by simpa using hz.out)⟩
  case round =>
    obtain ⟨k, acc, hk, rfl, rfl, hacc, hrem⟩ := hrel
    by_cases hlt : k < m
    · obtain ⟨b2, off2, rfl, _, hcx⟩ := rp.at_ hlt
      have hkp : k < p.length := by rw [hl.out]; exact hlt
      obtain ⟨y, hy⟩ : ∃ y : Nat, p.getD k 0 = (y : Int) := Int.eq_ofNat_of_zero_le (Hp.out _ (mem_getD hkp)).1
      have hyt : y < N := by have := (Hp.out _ (mem_getD hkp)).2; omega
      have hd : Hid (p.drop k = (y : Int) :: p.drop (k + 1)) := Lib.hid (by rw [drop_cons hkp, hy])
      rw [hy] at hcx
      clear hy
      obtain ⟨b3, off3, rfl, _, hcv⟩ := RdV.at_ rt (k := y) hyt
      have hcv := hcv y _ (natC_get (by rw [vals_len]; exact hyt))
      rw [hV_get xs hyt] at hcv
      have hx5 : hV xs y ≤ 255 := hbn.out y (by omega)
      have hrem' : Hid (xorF xs (acc ^^^ hV xs y) (p.drop (k + 1)) = z) := Lib.hid (by rw [← hrem.out, hd.out]; simp [xorF])
      generalize hV xs y = v at *
      have hX : bits .xor .i64 (acc : Int) (v : Int) = ((acc ^^^ v : Nat) : Int) := i64_xor_nat acc v (by omega) (by omega)
      have h255 := xor255 hacc hx5
      have hyt2 : (y : Int) < (N : Int) := by omega
      have hlt2 : (k : Int) < (m : Int) := by omega
      clear rt rp hkp
      go_wp2_with fail
      go_round
      case rel => exact ⟨k + 1, acc ^^^ v, by omega, by go_num, rfl, h255, hrem'⟩
      case measure => simp [intOf]; omega
    · have fin2 : Hid (acc = z) := Lib.hid (by have := hrem.out; rwa [List.drop_of_length_le (by rw [hl.out]; omega)] at this)
      go_wp2_with fail
      go_ret
      exact ⟨ret_int (by rw [fin2.out]), rfl⟩
theorem cR_dup {xs hs : List Int} {i : Nat} (h0 : 0 < i) (h : hs.getD i 0 = hs.getD (i - 1) 0) : candToR xs hs (i + 1) = candToR xs hs i := by
  rw [candToR, candAtR, if_pos ⟨h0, h⟩, List.append_nil]
theorem cR_new {xs hs : List Int} {i : Nat} (h : ¬ (0 < i ∧ hs.getD i 0 = hs.getD (i - 1) 0)) : candToR xs hs (i + 1) = candToR xs hs i ++ (moves xs (hs.getD i 0).toNat).map fun m => srtR [] (hs.take i ++ hs.drop (i + 1) ++ m) := by
  rw [candToR, candAtR, if_neg h]
theorem filter_snoc {α : Type} (q : α → Bool) (l : List α) (x : α) : (l ++ [x]).filter q = if q x then l.filter q ++ [x] else l.filter q := by
  rw [List.filter_append]
  cases h : q x <;> simp [h]
theorem srtR_mem {l : List Int} {x : Int} (h : x ∈ srtR [] l) : x ∈ l := by
  have := (srtR_perm l []).mem_iff.1 h
  simp at this; exact this.1

set_option maxRecDepth 100000 in
set_option maxHeartbeats 3200000 in
theorem s_l17Winning (bnd : Bnd) (A : Option Addr) (c : Nat) (xs : List Int) (V : Option Addr) (N cv : Nat) (g o n ch : Nat) (hs : List Int) (w : World) (rd : RdI w A xs.length xs) (hg : goodC xs = true) (rt : Tbl w V N xs) (hN : N ≤ 301)
    (rh : RdI w (some ⟨g, o, none⟩) n hs) (hcap : n ≤ ch) (hpos : ∀ x ∈ hs, 0 ≤ x ∧ x < N) (hsum : hs.sum ≤ 6000) (hn : n ≤ 6100) :
    Calls Try.prog 54 #[.slice A xs.length c, .slice V N cv, .slice (some ⟨g, o, none⟩) n ch] w fun e w' => ∃ v, e = .returned v ∧ PutI w w' v ((candR xs hs).filter (val0 xs)) := by
  have hl : Hid (hs.length = n) := Lib.hid rh.len
  have hx6 : xs.length ≤ 6 := (goodC_iff.1 hg).2.1
  have Hpos := Lib.hid hpos
  have hML : Hid (∀ k, k ≤ n → ((candToR xs hs k).filter (val0 xs)).length ≤ 108000) := Lib.hid (fun k hk => by
    have h1 := candToR_len (xs := xs) (hs := hs) hx6 (fun x hx => (hpos x hx).1) k (by rw [hl.out]; exact hk)
    have h2 := sum_take_le (hs := hs) (fun x hx => (hpos x hx).1) k
    have h3 := List.length_filter_le (val0 xs) (candToR xs hs k)
    omega)
  have RD := Lib.hid rd
  have RT := Lib.hid rt
  have RH := Lib.hid rh
  have Hg := Lib.hid hg
  have Bn := Lib.hid bnd
  clear hpos hsum rd rt rh hg bnd
  go_enter Try.func54, Try.ntmps54
  go_wp2_with fail
  go_loopg [7, 8] n (fun m v i wx => ∃ (k : Nat) (wy : World), wy = wx ∧ k ≤ n ∧ m = n - k ∧ i = .int .i64 k ∧ PutI w wy v ((candToR xs hs k).filter (val0 xs)))
  case atStart => exact ⟨0, _, rfl, Nat.zero_le _, rfl, rfl, PutI.start w⟩
  case round =>
    obtain ⟨i, wy, rfl, hi, rfl, rfl, hI⟩ := hrel
    obtain ⟨g1, o1, c1, rs1, rfl, hR, hc1, hL, hb, hB, hrl⟩ := hI.open
    have HI := Lib.hid hI
    have hlen := hML.out i hi
    clear hI
    by_cases hlt : i < n
    · obtain ⟨_, _, e, _, hcx⟩ := (RH.out.below hb.out).at_ hlt
      cases e
      have hil : i < hs.length := by rw [hl.out]; exact hlt
      have hy2 := Hpos.out _ (mem_getD hil)
      have hlt2 : (i : Int) < (n : Int) := by omega
      by_cases hdup : 0 < i ∧ hs.getD i 0 = hs.getD (i - 1) 0
      · obtain ⟨h0, he⟩ := hdup
        obtain ⟨_, _, e, _, hcx2⟩ := (RH.out.below hb.out).at_ (k := i - 1) (by omega)
        cases e
        rw [← he] at hcx2
        have hnx := Lib.hid (cR_dup (xs := xs) h0 he)
        generalize hs.getD i 0 = y at *
        have h0' : (0 : Int) < (i : Int) := by omega
        have k1 : (0 : Int) ≤ (i : Int) - 1 := by omega
        have k2 : (i : Int) - 1 < (n : Int) := by omega
        have k3 : ((i : Int) - 1).toNat = i - 1 := by omega
        have k4 : IntKind.i64.wrap ((i : Int) - 1) = (i : Int) - 1 := IntWalk.i64_in _ (by omega)
        clear he
        go_wp2_with fail
        go_quiet (fail)
        clear k3 k4
        go_wp2_with fail
        go_roundg (n - (i + 1))
        case measure => omega
        case rel => exact ⟨i + 1, _, rfl, by omega, rfl, by go_num, by rw [hnx.out]; exact HI.out.q (Q.drew (Q.refl _) _).below⟩
      · have hnx := Lib.hid (cR_new (xs := xs) hdup)
        obtain ⟨t, ht⟩ : ∃ t : Nat, hs.getD i 0 = (t : Int) := Int.eq_ofNat_of_zero_le hy2.1
        have htN : t < N := by have := hy2.2; omega
        rw [ht] at hcx hnx
        obtain ⟨b0, hb0⟩ : ∃ b0 : Bool, b0 = decide (0 < i) := ⟨_, rfl⟩
        have hcx2 : 0 < i → wy.cell? ⟨g, o + (i - 1), none⟩ = some (.int .i64 (hs.getD (i - 1) 0)) ∧ (t : Int) ≠ hs.getD (i - 1) 0 := fun h0 => by
          obtain ⟨_, _, e, _, hcx2⟩ := (RH.out.below hb.out).at_ (k := i - 1) (by omega)
          cases e
          exact ⟨hcx2, fun h => hdup ⟨h0, by rw [ht]; exact h⟩⟩
        have Hcx := Lib.hid hcx
        clear hdup hy2 ht b0 hb0
        go_upto_region 5 with fail
        go_cut [32] (fun v wx => v = .bool false ∧ ∃ wz, wz = wx ∧ Hid (Q wy wz))
        case first =>
          by_cases h0 : 0 < i
          · obtain ⟨d1, d2⟩ := hcx2 h0
            generalize hs.getD (i - 1) 0 = y2 at *
            have h0' : (0 : Int) < (i : Int) := by omega
            have k1 : (0 : Int) ≤ (i : Int) - 1 := by omega
            have k2 : (i : Int) - 1 < (n : Int) := by omega
            have k3 : ((i : Int) - 1).toNat = i - 1 := by omega
            have k4 : IntKind.i64.wrap ((i : Int) - 1) = (i : Int) - 1 := IntWalk.i64_in _ (by omega)
            have k5 : ((t : Int) == y2) = false := by simpa using d2
            clear hcx2
            go_wp2_with fail
            go_quiet (fail)
            clear k3 k4
            go_wp2_with fail
            go_meet
            case rel => exact ⟨rfl, _, rfl, Lib.hid (Q.drew (Q.refl _) _)⟩
          · have h0' : decide ((0 : Int) < (i : Int)) = false := decide_eq_false (by omega)
            have h0'' : decide (0 < i) = false := decide_eq_false h0
            clear hcx2 hcx
            go_wp2_with fail
            go_quiet (fail)
            go_wp2_with fail
            go_meet
            case rel => exact ⟨rfl, _, rfl, Lib.hid (Q.drew (Q.refl _) _)⟩
        case rest =>
          obtain ⟨rfl, wz, rfl, hq⟩ := hcut
          have hcz : wz.cell? ⟨g, o + i, none⟩ = some (.int .i64 t) := (hq.out.cell _).trans Hcx.out
          have hbz := Lib.hid (Below.next hb.out hq.out.below)
          have HIz := Lib.hid (HI.out.q hq.out.below)
          have HS := s_l17Moves A c xs t wz (RD.out.below hbz.out) Hg.out (by omega)
          have hBz : w.heap.size ≤ wz.heap.size := hbz.out.size
          clear hcx hcx2 hR hb hq HI Hcx
          go_wp2_with fail
          refine HS.mono ?_
          rintro e w1 ⟨v2, rfl, g2, o2, c2, rs2, rfl, hR2, hc2, hL2, hb2, _, hm2, hA2⟩
          have HR2 := Lib.hid hR2
          have HA2 := Lib.hid hA2
          have e2 : nums rs2 = moves xs t := hL2
          have hlr : rs2.length ≤ 18 * t := by have := moves_len18 (xs := xs) t hx6; rw [← e2] at this; simpa using this
          have E2 := Lib.hid e2
          have HIw := Lib.hid (HIz.out.q hb2)
          have hbw := Lib.hid (Below.next hbz.out hb2)
          obtain ⟨M0, hM0⟩ : ∃ M0, Hid ((candToR xs hs i).filter (val0 xs) = M0) := ⟨_, Lib.hid rfl⟩
          have hMl : M0.length ≤ 108000 := by rw [← hM0.out]; exact hlen
          rw [hM0.out] at HIw
          have hnx2 : Hid ((candToR xs hs (i + 1)).filter (val0 xs) = M0 ++ ((moves xs t).map fun m => srtR [] (hs.take i ++ hs.drop (i + 1) ++ m)).filter (val0 xs)) := Lib.hid (by
            rw [hnx.out, List.filter_append, hM0.out]; rfl)
          clear hR2 hL2 hb2 hm2 hA2 e2 hcz HIz hbz hBz HS hlen
          go_wp2_with fail
          go_loopg [7, 10] rs2.length (fun m v kk wx => ∃ (k : Nat) (wv : World), wv = wx ∧ k ≤ rs2.length ∧ m = rs2.length - k ∧ kk = .int .i64 k ∧
            PutI w wv v (M0 ++ (((moves xs t).take k).map fun m => srtR [] (hs.take i ++ hs.drop (i + 1) ++ m)).filter (val0 xs)) ∧ Hid (Below w1.heap.size w1 wv))
          case atStart => exact ⟨0, _, rfl, Nat.zero_le _, rfl, rfl, by simpa using HIw.out, Lib.hid (Below.refl _ _)⟩
          case round =>
            obtain ⟨k, wv, rfl, hk, rfl, rfl, hI, hbv⟩ := hrel
            obtain ⟨g3, o3, c3, rs3, rfl, _, hc3, hL3, hb3, hB3, hrl3⟩ := hI.open
            have HI := Lib.hid hI
            clear hI
            by_cases hkl : k < rs2.length
            · obtain ⟨_, _, e, _, r, _, hrm, hrx, hrr, hrc⟩ := (HR2.out.below hbv.out).at_ hkl
              cases e
              obtain ⟨rA, rc, rx⟩ := r
              simp only [Row.rd] at hrx hrr hrc hrm
              obtain ⟨gb, ob, hrA, _⟩ := (HA2.out _ hrm).1
              obtain ⟨ad, rfl⟩ : ∃ ad, rA = some ad := ⟨_, hrA⟩
              clear hrA
              have hmt : rx ∈ mvs xs t := by
                apply moves_mem.1
                rw [← E2.out]
                exact List.mem_map_of_mem hrm
              have hmf := mvs_facts hmt
              have hmk : Hid ((moves xs t).take (k + 1) = (moves xs t).take k ++ [rx]) := Lib.hid (by
                have hkm : k < (moves xs t).length := by rw [← E2.out]; simpa using hkl
                rw [E2.out] at hrx
                rw [List.take_succ_eq_append_getElem hkm]
                simp [List.getD, hkm] at hrx
                rw [hrx])
              have HA := s_l17After g o n ch hs i ad rx.length rc rx wv (RH.out.below (Below.next hbw.out hbv.out)) hcap hlt hrr (by omega) (by omega)
              have hkl2 : (k : Int) < (rs2.length : Int) := by omega
              have hMk : (M0 ++ (((moves xs t).take k).map fun m => srtR [] (hs.take i ++ hs.drop (i + 1) ++ m)).filter (val0 xs)).length < 900000 := by
                have h1 := List.length_filter_le (val0 xs) (((moves xs t).take k).map fun m => srtR [] (hs.take i ++ hs.drop (i + 1) ++ m))
                rw [List.length_append]
                rw [List.length_map, List.length_take] at h1
                omega
              have hsn := Lib.hid (filter_snoc (val0 xs) (((moves xs t).take k).map fun m => srtR [] (hs.take i ++ hs.drop (i + 1) ++ m)) (srtR [] (hs.take i ++ hs.drop (i + 1) ++ rx)))
              have hpp : ∀ x ∈ srtR [] (hs.take i ++ hs.drop (i + 1) ++ rx), 0 ≤ x ∧ x < N := by
                intro x hx
                have := srtR_mem hx
                simp only [List.mem_append] at this
                rcases this with (h | h) | h
                · exact Hpos.out x (List.mem_of_mem_take h)
                · exact Hpos.out x (List.mem_of_mem_drop h)
                · have := hmf.2.2 x h; omega
              have hpl : (srtR [] (hs.take i ++ hs.drop (i + 1) ++ rx)).length ≤ n + 2 := by
                have h1 := srtR_len (hs.take i ++ hs.drop (i + 1) ++ rx) []
                simp only [List.length_append, List.length_take, List.length_drop, hl.out, List.length_nil] at h1
                have := hmf.1
                omega
              obtain ⟨p, hp⟩ : ∃ p, Hid (srtR [] (hs.take i ++ hs.drop (i + 1) ++ rx) = p) := ⟨_, Lib.hid rfl⟩
              rw [hp.out] at HA hsn hpp hpl
              have Hrr := Lib.hid hrr
              have Hpp := Lib.hid hpp
              clear hrx hrr hrm hmt hmf hpp
              go_wp2_with fail
              refine HA.mono ?_
              rintro e w3 ⟨v3, rfl, g4, o4, c4, rfl, hr4, hc4, hb4, hg4, -⟩
              have HV := s_l17Value Bn.out V N cv xs (some ⟨g4, o4, none⟩) p.length c4 p w3 (RT.out.below (Below.next (Below.next hbw.out hbv.out) hb4)) hN hr4 Hpp.out Hg.out (by omega)
              have HI4 := Lib.hid (HI.out.q hb4)
              have hbv4 := Lib.hid (Below.next hbv.out hb4)
              have HP := Lib.hid (PutI.put HI4.out ⟨some ⟨g4, o4, none⟩, c4, p⟩ hr4 ⟨⟨_, _, rfl, Nat.le_trans hB3 hg4⟩, hc4⟩ (by show p.length ≤ _; omega) hMk)
              obtain ⟨z, hz⟩ : ∃ z, Hid (xorF xs 0 p = z) := ⟨_, Lib.hid rfl⟩
              rw [hz.out] at HV
              clear hr4 hb4 HA
              by_cases hz0 : z = 0
              · have hvv : Hid (val0 xs p = true) := Lib.hid (by unfold val0; rw [hz.out, hz0]; rfl)
                have hz1 : ((z : Int) == 0) = true := by simpa using hz0
                clear hz0
                go_wp2_with fail
                refine HV.mono ?_
                rintro e w4 ⟨rfl, rfl⟩
                go_wp2_with fail
                refine HP.out.mono ?_
                rintro e w5 ⟨v5, rfl, hI5, hb6⟩
                have hI5 := Lib.hid hI5
                have hb5 := Lib.hid (Below.next hbv4.out hb6)
                clear hb6
                go_wp2_with fail
                go_roundg (rs2.length - (k + 1))
                case measure => omega
                case rel => exact ⟨k + 1, _, rfl, by omega, rfl, by go_num, by
                  rw [hmk.out, List.map_append, List.map_cons, List.map_nil, hp.out, hsn.out, hvv.out, if_pos rfl, ← List.append_assoc]
                  exact hI5.out, hb5⟩
              · have hvv : Hid (val0 xs p = false) := Lib.hid (by unfold val0; rw [hz.out]; simpa using hz0)
                have hz1 : ((z : Int) == 0) = false := by simpa using hz0
                clear hz0
                go_wp2_with fail
                refine HV.mono ?_
                rintro e w4 ⟨rfl, rfl⟩
                go_wp2_with fail
                go_roundg (rs2.length - (k + 1))
                case measure => omega
                case rel => exact ⟨k + 1, _, rfl, by omega, rfl, by go_num, by
                  rw [hmk.out, List.map_append, List.map_cons, List.map_nil, hp.out, hsn.out, hvv.out, if_neg (by decide)]
                  exact HI4.out, hbv4⟩
            · obtain rfl : k = rs2.length := by omega
              have fin : Hid ((moves xs t).take rs2.length = moves xs t) := Lib.hid (List.take_of_length_le (by rw [← E2.out]; simp))
              go_wp2_with fail
              go_roundg (n - (i + 1))
              case measure => omega
              case rel => exact ⟨i + 1, _, rfl, by omega, rfl, by go_num, by rw [hnx2.out]; have := HI.out; rwa [fin.out] at this⟩
    · obtain rfl : i = n := by omega
      have fin : Hid (candToR xs hs i = candR xs hs) := Lib.hid (by unfold candR; rw [hl.out])
      go_wp2_with fail
      go_ret
      exact ⟨_, rfl, by rw [← fin.out]; exact HI.out⟩
end Go.Proofs.Ytoeacocijcammaa
