/- HeapMoves: the contracts, the walk of its law. -/
import Derived.Test.YtoeacocijcammaaLlI
import Derived.Test.YtoeacocijcammaaLlJ
import Derived.Test.YtoeacocijcammaaLlK
import Derived.Test.YtoeacocijcammaaHvC
namespace Go.Proofs.Ytoeacocijcammaa
open Go.RowKit

def hmC (xs : List Int) (n : Int) : List (List Int) × Bool := if goodC xs && inB n 0 300 then (moves xs n.toNat, true) else ([], false)
theorem hmC_code {xs : List Int} {n : Int} (h : goodC xs = false) : hmC xs n = ([], false) := by simp [hmC, h]
theorem hmC_n {xs : List Int} {n : Int} (h : inB n 0 300 = false) : hmC xs n = ([], false) := by simp [hmC, h]
theorem hmC_in {xs : List Int} {n : Nat} (h : goodC xs = true) (hn : n ≤ 300) : hmC xs n = (moves xs n, true) := by
  have : inB (n : Int) 0 300 = true := inB_true.2 ⟨by omega, by omega⟩
  simp [hmC, h, this]
theorem tot_le : ∀ {ms : List (List Int)} {b : Nat}, (∀ m ∈ ms, m.length ≤ b) → tot ms ≤ ms.length * b
  | [], b, _ => by simp [tot]
  | m :: l, b, h => by
    have h1 := h m (by simp)
    have h2 := tot_le (ms := l) (b := b) (fun x hx => h x (List.mem_cons_of_mem _ hx))
    simp only [tot, List.length_cons]
    rw [Nat.add_mul]; omega
theorem moves_small {xs : List Int} {n : Nat} (hx : xs.length ≤ 6) (hn : n ≤ 300) : SmallL (moves xs n) := by
  have h1 := moves_len hx hn
  have h2 : ∀ m ∈ moves xs n, m.length ≤ 2 := fun m hm => by
    obtain ⟨i, _, _, h3⟩ := mvs_mem.1 (moves_mem.1 hm)
    exact (mvK_facts h3).1
  have h3 := tot_le h2
  exact ⟨by omega, fun m hm => by have := h2 m hm; omega, by omega⟩
theorem SmallL.nil : SmallL [] := ⟨by simp, fun m hm => by simp at hm, by simp [tot]⟩
theorem hmC_small (xs : List Int) (n : Int) : SmallL (hmC xs n).1 := by
  unfold hmC
  split
  · rename_i h
    simp only [Bool.and_eq_true] at h
    have h2 := inB_true.1 h.2
    exact moves_small (goodC_iff.1 h.1).2.1 (by omega)
  · exact SmallL.nil
theorem OwnP.none {w w' : World} {m : List (List Int) × Bool} {e : Ending} (h : m = ([], false)) (he : e = .returned (.tuple #[.slice none 0 0, .bool false])) (hb : Below w.heap.size w w') : OwnP w m e w' := by
  subst h; exact ⟨Option.none, 0, [], he, OwnL.nil _ _, rfl, hb⟩
theorem ReadP.none {w w' : World} {m : List (List Int) × Bool} {e : Ending} (h : m = ([], false)) (he : e = .returned (.tuple #[.slice none 0 0, .bool false])) (hb : Below w.heap.size w w') : ReadP w m e w' := by
  subst h; exact ⟨Option.none, 0, [], he, ⟨RdV.nil, fun r hr => by simp at hr⟩, rfl, hb⟩
theorem OwnP.of {w w' : World} {L : List (List Int)} {v : Value} {m : List (List Int) × Bool} {e : Ending} (h : MvI w w' v L) (hm : m = (L, true)) (he : e = .returned (.tuple #[v, .bool true])) : OwnP w m e w' := by
  obtain ⟨g, c, rs, rfl, ho, hL, hb, _⟩ := h
  subst hm hL
  exact ⟨_, c, rs, by rw [he]; simp, ho, rfl, hb⟩
theorem ReadP.of {w w' : World} {M : List (List Int)} {v : Value} {m : List (List Int) × Bool} {e : Ending} (h : PutI w w' v M) (hm : m = (putAll [] M, true)) (he : e = .returned (.tuple #[v, .bool true])) : ReadP w m e w' := by
  obtain ⟨g, o, c, rs, rfl, hr, _, hL, hb, _⟩ := h
  subst hm
  have hlen : (putAll [] M).length = rs.length := by rw [← hL]; simp
  refine ⟨some ⟨g, o, Option.none⟩, c, rs, by rw [he]; simp only [hlen], ?_, hL, hb⟩
  simp only [hlen]; exact hr
set_option maxHeartbeats 800000 in
theorem s_HeapMoves (A : Option Addr) (c : Nat) (xs : List Int) (n : Int) (w : World) (rd : RdI w A xs.length xs) (hn : xs.length ≤ 1048576) :
    Calls Try.prog 10 #[.slice A xs.length c, .int .i64 n] w (ReadP w (hmC xs n)) := by
  have HG := Lib.hid (s_GoodCode A c xs w rd (by omega))
  cases hg : goodC xs
  · have fin := Lib.hid (hmC_code (n := n) hg)
    rw [hg] at HG
    clear hg
    go_enter Try.func10, Try.ntmps10
    go_wp2_with (go_at_call 22; refine HG.out.mono ?_; rintro e w' ⟨rfl, rfl⟩)
    exact bodyPost_ret (results_tmp2 rfl _ _ _) rfl (ReadP.none fin.out rfl (Below.refl _ _))
  · rw [hg] at HG
    cases hb : inB n 0 300
    · have fin := Lib.hid (hmC_n (xs := xs) hb)
      have HB := Lib.hid (c_l1In n 0 300 w)
      rw [hb] at HB
      clear hg hb
      go_enter Try.func10, Try.ntmps10
      go_wp2_with (first | (go_at_call 22; refine HG.out.mono ?_; rintro e w' ⟨rfl, rfl⟩) | (go_at_call 40; refine HB.out.mono ?_; rintro e w' ⟨rfl, rfl⟩))
      exact bodyPost_ret (results_tmp2 rfl _ _ _) rfl (ReadP.none fin.out rfl (Below.refl _ _))
    · obtain ⟨h0, h300⟩ := inB_true.1 hb
      obtain ⟨m, rfl⟩ := Int.eq_ofNat_of_zero_le h0
      have fin := Lib.hid (hmC_in hg (n := m) (by omega))
      have HB := Lib.hid (c_l1In m 0 300 w)
      have HV := Lib.hid (s_l17Moves A c xs m w rd hg (by omega))
      rw [hb] at HB
      clear hg hb h0 h300
      go_enter Try.func10, Try.ntmps10
      go_wp2_with (first | (go_at_call 22; refine HG.out.mono ?_; rintro e w' ⟨rfl, rfl⟩) | (go_at_call 40; refine HB.out.mono ?_; rintro e w' ⟨rfl, rfl⟩))
      refine HV.out.mono ?_
      rintro e w1 ⟨v, rfl, hI⟩
      have HI := Lib.hid hI
      clear hI
      go_wp2_with fail
      exact bodyPost_ret (results_tmp2 rfl _ _ _) rfl (ReadP.of HI.out fin.out rfl)
set_option maxHeartbeats 800000 in
theorem c_HeapMoves (A : Option Addr) (c : Nat) (xs : List Int) (n : Int) (w : World) (rd : RdI w A xs.length xs) :
    Calls Try.prog 12 #[.slice A xs.length c, .int .i64 n] w (OwnP w (hmC xs n)) := by
  have HG := Lib.hid (c_GoodCode A c xs w rd)
  cases hg : goodC xs
  · have fin := Lib.hid (hmC_code (n := n) hg)
    rw [hg] at HG
    clear hg
    go_enter Try.func12, Try.ntmps12
    go_wp2_with (go_at_call 23; refine HG.out.mono ?_; rintro e w' ⟨rfl, rfl⟩)
    exact bodyPost_ret (results_tmp2 rfl _ _ _) rfl (OwnP.none fin.out rfl (Below.refl _ _))
  · rw [hg] at HG
    by_cases h0 : n < 0
    · have fin := Lib.hid (hmC_n (xs := xs) (inB_false.2 (.inl h0)))
      clear hg
      go_enter Try.func12, Try.ntmps12
      go_wp2_with (go_at_call 23; refine HG.out.mono ?_; rintro e w' ⟨rfl, rfl⟩)
      exact bodyPost_ret (results_tmp2 rfl _ _ _) rfl (OwnP.none fin.out rfl (Below.refl _ _))
    · by_cases h3 : 300 < n
      · have fin := Lib.hid (hmC_n (xs := xs) (inB_false.2 (.inr h3)))
        clear hg
        go_enter Try.func12, Try.ntmps12
        go_wp2_with (go_at_call 23; refine HG.out.mono ?_; rintro e w' ⟨rfl, rfl⟩)
        exact bodyPost_ret (results_tmp2 rfl _ _ _) rfl (OwnP.none fin.out rfl (Below.refl _ _))
      · obtain ⟨m, rfl⟩ := Int.eq_ofNat_of_zero_le (show 0 ≤ n by omega)
        have fin := Lib.hid (hmC_in hg (n := m) (by omega))
        have HV := Lib.hid (c_heapMoves A c xs m w rd hg (by omega))
        clear hg
        go_enter Try.func12, Try.ntmps12
        go_wp2_with (go_at_call 23; refine HG.out.mono ?_; rintro e w' ⟨rfl, rfl⟩)
        refine HV.out.mono ?_
        rintro e w1 ⟨v, rfl, hI⟩
        have HI := Lib.hid hI
        clear hI
        go_wp2_with fail
        exact bodyPost_ret (results_tmp2 rfl _ _ _) rfl (OwnP.of HI.out fin.out rfl)
set_option maxRecDepth 100000 in
set_option maxHeartbeats 3200000 in
theorem w_FnExactHeapMoves_of (A0 : Option Addr) (len0 c0 : Nat) (ys0 : List Int) (n1 : Int) (w : World) (rd0 : RdV w A0 len0 (ys0.map (Value.int .i64))) (_f0 : Fits .i64 ys0) (_m0 : len0 ≤ maxLen) (_w1 : (Lit.int .i64 n1).wf = true) (m : List (List Int) × Bool)
    (Hm : ys0.length ≤ 1048576 → SmallL m.1)
    (HS : ys0.length ≤ 1048576 → (∀ (g0 : Nat) (w : World), RdI w (some ⟨g0, 0, none⟩) ys0.length ys0 → Calls Try.prog 10 #[.slice (some ⟨g0, 0, none⟩) ys0.length ys0.length, .int .i64 n1] w (ReadP w m)))
    (HC : ys0.length ≤ 1048576 → (∀ (g0 : Nat) (w : World), RdI w (some ⟨g0, 0, none⟩) ys0.length ys0 → Calls Try.prog 12 #[.slice (some ⟨g0, 0, none⟩) ys0.length ys0.length, .int .i64 n1] w (OwnP w m))) :
    Calls Try.prog 3 #[.slice A0 len0 c0, .int .i64 n1] w fun e w' => e = .returned (.bool true) ∧ Below w.heap.size w w' := by
  have rd0 : RdI w A0 len0 ys0 := rd0
  obtain rfl := rd0.len
  clear _f0 _m0 _w1
  by_cases hn0 : ys0.length ≤ 1048576
  rotate_left
  · have hx : ¬ (ys0.length : Int) ≤ 1048576 := by omega
    have hx2 : (1048576 : Int) < (ys0.length : Int) := by omega
    go_enter Try.func3, Try.ntmps3
    go_wp2_with fail
    go_ret
    exact ⟨rfl, Below.refl _ _⟩
  have Hm := Hm hn0
  have HS := HS hn0
  have HC := HC hn0
  obtain ⟨ms, ok⟩ := m
  obtain ⟨hl1, hl2, hl3⟩ := Hm
  simp only at hl1 hl2 hl3
  have Hl2 := Lib.hid hl2
  have Hl7 : Hid (∀ m ∈ ms, m.length ≤ 10000000) := Lib.hid (fun m hm => Nat.le_trans (hl2 m hm) (by decide))
  clear hl2
  go_enter Try.func3, Try.ntmps3
  have C0 : Below w.heap.size w w := Below.refl _ _
  go_wp2_with fail
  refine (c_toIntS _ _ _ ys0 _ (rd0.below C0) hn0).mono ?_
  rintro e v1 ⟨gv1, rfl, _, tv1, bv1⟩
  have C0 := Below.next C0 bv1
  go_wp2_with fail
  refine (HS _ _ tv1).mono ?_
  rintro e w1 ⟨A1, cc1, rs1, rfl, r1, e1, b1⟩
  have E1 := Lib.hid e1
  clear e1
  have C0 := Below.next C0 b1
  have C1 : Below w1.heap.size w1 w1 := Below.refl _ _
  have B01 : w.heap.size ≤ w1.heap.size := C0.size
  go_wp2_with fail
  refine (c_toIntS_own _ _ _ ys0 _ (rd0.below C0) hn0).mono ?_
  rintro e v2 ⟨gv2, rfl, x0, bv2⟩
  have C0 := Below.next C0 bv2
  have C1 := Below.next C1 bv2
  have X0 := x0
  have S0 : w1.heap.size ≤ v2.heap.size := C1.size
  have LP0 : w1.heap.size ≤ w1.heap.size := Nat.le_refl _
  have LO0 : w.heap.size ≤ w1.heap.size := Nat.le_trans B01 LP0
  go_wp2_with fail
  refine (HC _ _ x0.rd).mono ?_
  rintro e w2 ⟨A2, cc2, rs2, rfl, o2, e2, b2⟩
  have E2 := Lib.hid e2
  have HL2 : Hid (rs2.length = ms.length) := Lib.hid (by have := congrArg List.length e2; simpa using this)
  clear e2
  have C0 := Below.next C0 b2
  have C1 := Below.next C1 b2
  have x0 := own_below x0 b2
  have SB : w1.heap.size ≤ v2.heap.size := S0
  have LOG : w.heap.size ≤ v2.heap.size := Nat.le_trans B01 SB
  have LG0 : v2.heap.size ≤ v2.heap.size := Nat.le_refl _
  go_wp2_with fail
  refine (c_eqIntSS_same _ _ _ _ _ rs2 rs1 _ (o2.rdm HL2.out) (r1.below C1) (E2.out.trans E1.out.symm) (by omega) (hlen_of Hl2.out E2.out)).mono ?_
  rintro e v3 ⟨rfl, qv3⟩
  have bv3 := qv3.below
  have C0 := Below.next C0 bv3
  have C1 := Below.next C1 bv3
  have x0 := own_below x0 bv3
  have o2 := o2.below bv3
  go_wp2_with fail
  refine (c_toIntS _ _ _ ys0 _ (rd0.below C0) hn0).mono ?_
  rintro e v4 ⟨gv4, rfl, _, tv4, bv4⟩
  have C0 := Below.next C0 bv4
  have C1 := Below.next C1 bv4
  have x0 := own_below x0 bv4
  have o2 := o2.below bv4
  go_wp2_with fail
  refine (c_eqIntS_same _ _ _ _ _ ys0 _ (OwnI.rd x0) tv4 hn0).mono ?_
  rintro e v5 ⟨rfl, qv5⟩
  have bv5 := qv5.below
  have C0 := Below.next C0 bv5
  have C1 := Below.next C1 bv5
  have x0 := own_below x0 bv5
  have o2 := o2.below bv5
  have hz0 : (0 : Int) ≤ 1 := by omega
  go_wp2_with fail
  refine (c_markIntS _ _ _ ys0 _ _ x0 (by omega) (by omega) (by omega)).mono ?_
  rintro e v6 ⟨rfl, _, kv6⟩
  have C0 := C0.grown kv6 C0.size (fun j hj => Nat.le_trans LO0 (x0.lt j hj).1)
  have C1 := C1.grown kv6 C1.size (fun j hj => Nat.le_trans LP0 (x0.lt j hj).1)
  have o2 := o2.other X0 LG0 kv6
  have hz : (0 : Int) ≤ 1 + (ys0.length : Int) := by omega
  go_wp2_with fail
  refine (c_eqIntSS_same _ _ _ _ _ rs2 rs1 _ (o2.rdm HL2.out) (r1.below C1) (E2.out.trans E1.out.symm) (by omega) (hlen_of Hl2.out E2.out)).mono ?_
  rintro e v7 ⟨rfl, qv7⟩
  have bv7 := qv7.below
  have C0 := Below.next C0 bv7
  have C1 := Below.next C1 bv7
  have o2 := o2.below bv7
  clear hz hz0
  have HM := c_markIntSS _ _ _ rs2 1 _ o2 (by rw [HL2.out]; omega) (by rw [E2.out]; exact hl3) (by rw [E2.out]; exact Hl7.out) (by decide) (by decide)
  rw [HL2.out, E2.out] at HM
  go_wp2_with fail
  refine HM.mono ?_
  rintro e v8 ⟨rfl, rs3, hl4, o3, e3, k3⟩
  have C0 := Below.trans C0 (k3.mono LOG)
  have C1 := Below.trans C1 (k3.mono SB)
  have r3 := o3.rd
  rw [hl4] at r3
  have E3 := Lib.hid e3
  have hz2 : (0 : Int) ≤ 1 + (tot ms : Int) := by omega
  clear HM
  clear e3 hl4 o3
  go_wp2_with fail
  refine (c_heldIntSS _ _ _ rs3 ms _ _ r3 E3.out (by omega) hl3 Hl7.out (by decide) (by decide)).mono ?_
  rintro e v9 ⟨rfl, rfl⟩
  go_wp2_with fail
  refine (c_toIntS _ _ _ ys0 _ (rd0.below C0) hn0).mono ?_
  rintro e v10 ⟨gv10, rfl, _, tv10, bv10⟩
  have C0 := Below.next C0 bv10
  have C1 := Below.next C1 bv10
  have r3 := r3.below bv10
  go_wp2_with fail
  refine (HC _ _ tv10).mono ?_
  rintro e w4 ⟨A4, cc4, rs4, rfl, o4, e4, b4⟩
  have E4 := Lib.hid e4
  have HL4 : Hid (rs4.length = ms.length) := Lib.hid (by have := congrArg List.length e4; simpa using this)
  clear e4
  have C0 := Below.next C0 b4
  have C1 := Below.next C1 b4
  have r3 := r3.below b4
  go_wp2_with fail
  refine (c_eqIntSS_same _ _ _ _ _ rs4 rs1 _ (o4.rdm HL4.out) (r1.below C1) (E4.out.trans E1.out.symm) (by omega) (hlen_of Hl2.out E4.out)).mono ?_
  rintro e v11 ⟨rfl, qv11⟩
  have bv11 := qv11.below
  have C0 := Below.next C0 bv11
  have C1 := Below.next C1 bv11
  have r3 := r3.below bv11
  go_wp2_with fail
  refine (c_heldIntSS _ _ _ rs3 ms _ _ r3 E3.out (by omega) hl3 Hl7.out (by decide) (by decide)).mono ?_
  rintro e v12 ⟨rfl, rfl⟩
  go_wp2_with fail
  go_ret
  exact ⟨rfl, C0⟩
theorem w_FnExactHeapMoves (A : Option Addr) (len c : Nat) (ys : List Int) (n : Int) (w : World) (rd : RdV w A len (ys.map (Value.int .i64))) (f : Fits .i64 ys) (m : len ≤ maxLen) (hn64 : (Lit.int .i64 n).wf = true) :
    Calls Try.prog 3 #[.slice A len c, .int .i64 n] w fun e w' => e = .returned (.bool true) ∧ Below w.heap.size w w' :=
  w_FnExactHeapMoves_of A len c ys n w rd f m hn64 (hmC ys n) (fun _ => hmC_small ys n) (fun h g w r => s_HeapMoves (some ⟨g, 0, none⟩) _ ys n w r h) (fun _ g w r => c_HeapMoves (some ⟨g, 0, none⟩) _ ys n w r)
end Go.Proofs.Ytoeacocijcammaa
