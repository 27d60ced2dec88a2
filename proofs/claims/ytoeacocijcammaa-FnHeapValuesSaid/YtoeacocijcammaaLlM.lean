/- The reference's sort of heaps: l17Sorted. -/
import Derived.Test.YtoeacocijcammaaLlC
import Derived.Test.YtoeacocijcammaaMvP
import Derived.Test.YtoeacocijcammaaMarks
namespace Go.Proofs.Ytoeacocijcammaa
open Go.RowKit

/-- A slice of ints that is read, with room for what it holds. -/
def SrI (w wx : World) (v : Value) (L : List Int) : Prop := ∃ g o c, v = .slice (some ⟨g, o, none⟩) L.length c ∧ RdI wx (some ⟨g, o, none⟩) L.length L ∧ L.length ≤ c ∧ Below w.heap.size w wx ∧ w.heap.size ≤ g ∧ o = 0 ∧ OwnI wx w.heap.size (some ⟨g, 0, none⟩) c L
theorem SrI.start (w : World) : SrI w (w.alloc (.cells #[] 3)) (.slice (some ⟨w.heap.size, 0, none⟩) 0 0) [] :=
  ⟨w.heap.size, 0, 0, rfl, RdI.nil, Nat.le_refl _, (Below.refl _ _).alloc (Nat.le_refl _) _, Nat.le_refl _, rfl, own_lit0 w _ _ (Nat.le_refl _)⟩
theorem ints_cells {w : World} {b off n : Nat} {xs : List Int} (h : RdI w (some ⟨b, off, none⟩) n xs) (i k : Nat) : ∀ j u, (((xs.drop i).take k).map (Value.int .i64))[j]? = some u → w.cell? ((⟨b, off + i, none⟩ : Addr).add j) = some u := by
  intro j u hu
  rw [List.map_take, List.map_drop] at hu
  have hj : j < k := by
    rcases Nat.lt_or_ge j k with h1 | h1
    · exact h1
    · rw [List.getElem?_eq_none (by simp; omega)] at hu; cases hu
  rw [List.getElem?_take_of_lt hj, List.getElem?_drop] at hu
  have hi : i + j < xs.length := by
    rcases Nat.lt_or_ge (i + j) xs.length with h1 | h1
    · exact h1
    · rw [List.getElem?_eq_none (by simpa using h1)] at hu; cases hu
  obtain ⟨b', off', e, hb, hc⟩ := RdV.at_ h (k := i + j) (by rw [← h.len]; exact hi)
  cases e
  have := hc (i + j) u hu
  have e2 : (⟨b, off + i, none⟩ : Addr).add j = ⟨b, off + (i + j), none⟩ := by
    unfold Addr.add; split <;> simp_all <;> omega
  rw [e2]; exact this
theorem ints_take {w : World} {b off n : Nat} {xs : List Int} (h : RdI w (some ⟨b, off, none⟩) n xs) (k : Nat) : ∀ j u, ((xs.take k).map (Value.int .i64))[j]? = some u → w.cell? ((⟨b, off, none⟩ : Addr).add j) = some u := by
  have := ints_cells h 0 k
  rwa [List.drop_zero] at this
theorem ints_drop {w : World} {b off n : Nat} {xs : List Int} (h : RdI w (some ⟨b, off, none⟩) n xs) (k : Nat) : ∀ j u, ((xs.drop k).map (Value.int .i64))[j]? = some u → w.cell? ((⟨b, off + k, none⟩ : Addr).add j) = some u := by
  have := ints_cells h k xs.length
  rwa [List.take_of_length_le (by rw [List.length_drop]; omega)] at this
theorem one_ints {xs : List Int} : ∀ u ∈ xs.map (Value.int .i64), u.oneCell' = true := by
  intro u hu; obtain ⟨s, _, rfl⟩ := List.mem_map.1 hu; rfl
theorem SrI.of_own {w wr w3 : World} {g3 c3 m : Nat} {L : List Int} {us : List Value} (hb : Below w.heap.size w wr) (b3 : Below wr.heap.size wr w3)
    (o3 : w3.ownsRow wr.heap.size 3 1 (.slice (some ⟨g3, 0, none⟩) m c3) m us) (e : us = L.map (Value.int .i64)) : SrI w w3 (.slice (some ⟨g3, 0, none⟩) m c3) L := by
  subst e
  have hl : m = L.length := by have := o3.1; simp at this; omega
  subst hl
  exact ⟨g3, 0, c3, rfl, RdV.of_own o3, own_cap o3, Below.next hb b3, Nat.le_trans hb.size (own_ge o3), rfl, own_low o3 hb.size⟩
theorem cell_new1 (w : World) (u : Value) (E : TypeId) : ∀ j v, [u][j]? = some v → (w.alloc (.cells #[u] E)).cell? ((⟨w.heap.size, 0, none⟩ : Addr).add j) = some v := cell_one_new w u E
theorem cell_old (w : World) {a : Addr} {u : Value} (h : w.cell? a = some u) : (∀ o, (w.alloc o).cell? a = some u) ∧ (∀ o p, ((w.alloc o).alloc p).cell? a = some u) := ⟨fun o => cell_alloc h o, fun o p => cell_alloc (cell_alloc h o) p⟩
set_option maxRecDepth 100000 in
set_option maxHeartbeats 3200000 in
theorem s_l17Sorted (A : Option Addr) (n c : Nat) (xs : List Int) (w : World) (rd : RdI w A n xs) (hn : n ≤ 1000000) :
    Calls Try.prog 53 #[.slice A n c] w fun e w' => ∃ v, e = .returned v ∧ SrI w w' v (srtR [] xs) := by
  have hxl : Hid (xs.length = n) := Lib.hid rd.len
  go_enter Try.func53, Try.ntmps53
  go_wp2_with fail
  go_loopg [3, 4] n (fun m o i wx => ∃ k : Nat, k ≤ n ∧ m = n - k ∧ i = .int .i64 k ∧ SrI w wx o (srtR [] (xs.take k)))
  case atStart => exact ⟨0, Nat.zero_le _, rfl, rfl, by simpa [srtR] using SrI.start w⟩
  case round =>
    obtain ⟨w0, hw0⟩ : ∃ w0, w0 = wr := ⟨_, rfl⟩
    subst hw0
    obtain ⟨i, hi, rfl, rfl, hI⟩ := hrel
    by_cases hlt : i < n
    · have hb0 : Below w.heap.size w w0 := by obtain ⟨_, _, _, _, _, _, hb, _⟩ := hI; exact hb
      obtain ⟨b, off, rfl, hbl, hc⟩ := (rd.below hb0).at_ hlt
      have hsn : Hid (srtR [] (xs.take (i + 1)) = if xs.getD i 0 = 0 then srtR [] (xs.take i) else insI (srtR [] (xs.take i)) (xs.getD i 0)) := Lib.hid (by
        have h1 : i < xs.length := by rw [hxl.out]; exact hlt
        rw [List.take_succ_eq_append_getElem h1, srtR_snoc]; simp [h1])
      have hll : (srtR [] (xs.take i)).length ≤ 1000000 := by have := srtR_len (xs.take i) []; simp at this; omega
      generalize xs.getD i 0 = x at *
      obtain ⟨L, hL⟩ : ∃ L, Hid (srtR [] (xs.take i) = L) := ⟨_, Lib.hid rfl⟩
      rw [hL.out] at hsn hI hll
      have HI := Lib.hid hI
      have Hb0 := Lib.hid hb0
      have HRD := Lib.hid rd
      by_cases hx : x = 0
      · have hx0 : (x == 0) = true := by simpa using hx
        rw [if_pos hx] at hsn
        clear hx hI hb0 rd
        go_wp2_with fail
        go_roundg (n - (i + 1))
        case measure => omega
        case rel => exact ⟨i + 1, by omega, rfl, by go_num, by rw [hsn.out]; exact HI.out⟩
      · have hx0 : (x == 0) = false := by simpa using hx
        rw [if_neg hx] at hsn
        obtain ⟨g, o, cap, rfl, hr, hcap, -⟩ := hI
        have HR := Lib.hid hr
        have Hc := Lib.hid hc
        clear hx hb0 rd hr
        go_wp2_with fail
        go_loopg [5] L.length (fun m s wx => ∃ (k : Nat) (wy : World), wy = wx ∧ k ≤ L.length ∧ m = L.length - k ∧ s = .int .i64 k ∧ Q w0 wy ∧ Hid (∀ j, j < k → L.getD j 0 < x))
        case atStart => exact ⟨0, _, rfl, Nat.zero_le _, rfl, rfl, Q.refl _, Lib.hid (fun j hj => absurd hj (by omega))⟩
        case round =>
          obtain ⟨k, wy, rfl, hk, rfl, rfl, q, hlow⟩ := hrel
          have hrk : k < L.length → RdI wy (some ⟨g, o, none⟩) L.length L := fun _ => HR.out.q q
          have hcy : wy.cell? ⟨b, off + i, none⟩ = some (.int .i64 x) := (q.cell _).trans Hc.out
          have Q' := Lib.hid q
          have hk0 : (0 : Int) ≤ k := by omega
          by_cases hcont : k < L.length ∧ L.getD k 0 < x
          · obtain ⟨hlt2, hyx⟩ := hcont
            obtain ⟨b', off', e', _, hcl⟩ := (hrk hlt2).at_ hlt2
            cases e'
            have hlow2 := Lib.hid (fun (j : Nat) (hj : j < k + 1) => show L.getD j 0 < x from by
              by_cases e : j = k
              · subst e; exact hyx
              · exact hlow.out j (by omega))
            generalize L.getD k 0 = y at *
            have hlt3 : (k : Int) < (L.length : Int) := by omega
            clear hrk q hc
            go_wp2_with fail
            go_quiet (fail)
            go_wp2_with fail
            go_roundg (L.length - (k + 1))
            case measure => omega
            case rel => exact ⟨k + 1, _, rfl, by omega, rfl, by go_num, Q'.out.drew _, hlow2⟩
          · have hat := Lib.hid (insI_at (l := L) (x := x) (k := k) hk hlow.out (fun h1 h2 => hcont ⟨h1, h2⟩))
            by_cases hlt2 : k < L.length
            · obtain ⟨b', off', e', _, hcl⟩ := (hrk hlt2).at_ hlt2
              cases e'
              have hyx : ¬ L.getD k 0 < x := fun h => hcont ⟨hlt2, h⟩
              generalize L.getD k 0 = y at *
              have hlt3 : (k : Int) < (L.length : Int) := by omega
              have hkc2 : (k : Int) < cap := by omega
              have hkc3 : k ≤ cap := by omega
              have hkc4 : ¬ cap = k := by omega
              have hkl : k ≤ L.length := by omega
              clear hcont hrk q hc
              go_wp2_with fail
              go_quiet (fail)
              rename_i nq
              clear hcl
              have Q9 : Hid (Q w0 (wy.drewN nq)) := Lib.hid (Q'.out.drew nq)
              have hc9 : (wy.drewN nq).cell? ⟨b, off + i, none⟩ = some (.int .i64 x) := hcy
              clear hcy
              obtain ⟨wr, hwr⟩ : ∃ W, W = wy.drewN nq := ⟨_, rfl⟩
              rw [← hwr]
              rw [← hwr] at Q9 hc9
              clear hwr
              have HR9 := Lib.hid (HR.out.q Q9.out)
              obtain ⟨kx1, kx2⟩ := cell_old wr hc9
              have hsz1 : ∀ o, wr.heap.size ≤ (wr.alloc o).heap.size := hsz_1 wr
              have hsz2 : ∀ o p, wr.heap.size ≤ ((wr.alloc o).alloc p).heap.size := hsz_2 wr
              have hblt : b < wr.heap.size := by rw [Q9.out.size]; exact Nat.lt_of_lt_of_le hbl (Nat.le_refl _)
              go_wp2_with fail
              go_region_law (first
                | (refine step_app (wr.alloc (.cells #[] 3)).drew 22 3 (.int .i64 0) 8 Try.underlying22 hI_int rfl rfl (.tmp 35) (.tmp 38) rfl wr.heap.size _ _ _ [] rfl (own_heap (own_lit0 wr _ _ (Nat.le_refl _)) rfl) _ _ _ ((L.take k).map (Value.int .i64)) rfl ?_ (ints_take (RdI.below HR9.out (below_heap ((Below.refl _ _).alloc (Nat.le_refl _) _) ((Q.refl _).drew1))) k) (fun u hu => one_ints u (by rw [List.map_take] at hu; exact List.mem_of_mem_take hu)) ?_ (by decide) (hsz1 _) ?_
                   · rw [List.length_map, List.length_take]; omega
                   · omega
                   intro g1 c1 w1 o1 gb1 hg1
                   have b1 : Below wr.heap.size wr w1 := Below.grown (below_heap ((Below.refl _ _).alloc (Nat.le_refl _) _) ((Q.refl _).drew1)) gb1 (hsz1 _) (fun j hj => by have := Option.some.inj hj; omega)
                   skip
                   have kw : w1.cell? ⟨b, off + i, none⟩ = some (.int .i64 x) := (b1.cell (p := ⟨b, off + i, none⟩) hblt).trans hc9
                   have hB1 : wr.heap.size ≤ w1.heap.size := b1.size
                   have o1' : w1.ownsRow wr.heap.size 3 1 (.slice (some ⟨g1, 0, none⟩) k c1) k ((L.take k).map (Value.int .i64)) := by rw [Nat.zero_add] at o1; exact o1
                   clear o1 gb1 hg1)
                | (refine step_app ((wr.alloc (.cells #[] 3)).alloc (.cells #[.int .i64 x] 3)).drew 22 3 (.int .i64 0) 8 Try.underlying22 hI_int rfl rfl (.tmp 35) (.tmp 38) rfl wr.heap.size _ _ _ [] rfl (own_heap ((own_lit0 wr _ _ (Nat.le_refl _)).alloc _) rfl) _ _ _ ((L.take k).map (Value.int .i64)) rfl ?_ (ints_take (RdI.below HR9.out (below_heap (((Below.refl _ _).alloc (Nat.le_refl _) _).alloc (hsz1 _) _) ((Q.refl _).drew1))) k) (fun u hu => one_ints u (by rw [List.map_take] at hu; exact List.mem_of_mem_take hu)) ?_ (by decide) (hsz2 _ _) ?_
                   · rw [List.length_map, List.length_take]; omega
                   · omega
                   intro g1 c1 w1 o1 gb1 hg1
                   have b1 : Below wr.heap.size wr w1 := Below.grown (below_heap (((Below.refl _ _).alloc (Nat.le_refl _) _).alloc (hsz1 _) _) ((Q.refl _).drew1)) gb1 (hsz2 _ _) (fun j hj => by have := Option.some.inj hj; omega)
                   have k40 : w1.cell? ⟨wr.heap.size + 1, 0, none⟩ = some (.int .i64 x) := World.grownBy.cell gb1 (cell2 wr _ _ _) (fun e => by have := Option.some.inj e; simp at this)
                   have kw : w1.cell? ⟨b, off + i, none⟩ = some (.int .i64 x) := (b1.cell (p := ⟨b, off + i, none⟩) hblt).trans hc9
                   have hB1 : wr.heap.size ≤ w1.heap.size := b1.size
                   have o1' : w1.ownsRow wr.heap.size 3 1 (.slice (some ⟨g1, 0, none⟩) k c1) k ((L.take k).map (Value.int .i64)) := by rw [Nat.zero_add] at o1; exact o1
                   clear o1 gb1 hg1)
                | (refine step_app ((wr.alloc (.cells #[.int .i64 x] 3)).alloc (.cells #[] 3)).drew 22 3 (.int .i64 0) 8 Try.underlying22 hI_int rfl rfl (.tmp 35) (.tmp 38) rfl wr.heap.size _ _ _ [] rfl (own_lit1 wr _ _ _ (Nat.le_refl _)) _ _ _ ((L.take k).map (Value.int .i64)) rfl ?_ (ints_take (RdI.below HR9.out (below_heap (((Below.refl _ _).alloc (Nat.le_refl _) _).alloc (hsz1 _) _) ((Q.refl _).drew1))) k) (fun u hu => one_ints u (by rw [List.map_take] at hu; exact List.mem_of_mem_take hu)) ?_ (by decide) (hsz2 _ _) ?_
                   · rw [List.length_map, List.length_take]; omega
                   · omega
                   intro g1 c1 w1 o1 gb1 hg1
                   have b1 : Below wr.heap.size wr w1 := Below.grown (below_heap (((Below.refl _ _).alloc (Nat.le_refl _) _).alloc (hsz1 _) _) ((Q.refl _).drew1)) gb1 (hsz2 _ _) (fun j hj => by have := Option.some.inj hj; omega)
                   have k40 : w1.cell? ⟨wr.heap.size, 0, none⟩ = some (.int .i64 x) := World.grownBy.cell gb1 (cell1 wr _ _ _) (fun e => by have := Option.some.inj e; simp at this)
                   have kw : w1.cell? ⟨b, off + i, none⟩ = some (.int .i64 x) := (b1.cell (p := ⟨b, off + i, none⟩) hblt).trans hc9
                   have hB1 : wr.heap.size ≤ w1.heap.size := b1.size
                   have o1' : w1.ownsRow wr.heap.size 3 1 (.slice (some ⟨g1, 0, none⟩) k c1) k ((L.take k).map (Value.int .i64)) := by rw [Nat.zero_add] at o1; exact o1
                   clear o1 gb1 hg1)
                | (refine step_app w1 22 3 (.int .i64 0) 8 Try.underlying22 hI_int rfl rfl (.tmp 39) (.tmp 44) rfl wr.heap.size _ _ _ ((L.take k).map (Value.int .i64)) rfl (o1') _ _ _ [.int .i64 x] rfl rfl (cell_single k40) (fun u hu => by obtain rfl := List.mem_singleton.1 hu; rfl) ?_ (by decide) (hB1) ?_
                   · omega
                   intro g2 c2 w2 o2 gb2 hg2
                   have b2 : Below wr.heap.size wr w2 := Below.grown (b1) gb2 (hB1) (fun j hj => by have := Option.some.inj hj; have := own_ge o1'; omega)
                   have hB2 : wr.heap.size ≤ w2.heap.size := b2.size
                   clear o1' gb2 hg2)
                | (refine step_app (w1.alloc (.cells #[.int .i64 x] 3)) 22 3 (.int .i64 0) 8 Try.underlying22 hI_int rfl rfl (.tmp 39) (.tmp 44) rfl wr.heap.size _ _ _ ((L.take k).map (Value.int .i64)) rfl (o1'.alloc _) _ _ _ [.int .i64 x] rfl rfl (cell_one_new w1 _ _) (fun u hu => by obtain rfl := List.mem_singleton.1 hu; rfl) ?_ (by decide) (Nat.le_trans hB1 (by simp)) ?_
                   · omega
                   intro g2 c2 w2 o2 gb2 hg2
                   have b2 : Below wr.heap.size wr w2 := Below.grown (b1.alloc hB1 _) gb2 (Nat.le_trans hB1 (by simp)) (fun j hj => by have := Option.some.inj hj; have := own_ge o1'; omega)
                   have hB2 : wr.heap.size ≤ w2.heap.size := b2.size
                   clear o1' gb2 hg2)
                | (refine step_app w2 22 3 (.int .i64 0) 8 Try.underlying22 hI_int rfl rfl (.tmp 45) (.tmp 48) rfl wr.heap.size _ _ _ ((L.take k).map (Value.int .i64) ++ [.int .i64 x]) rfl o2 _ _ _ ((L.drop k).map (Value.int .i64)) rfl (by simp only [List.length_map, List.length_drop]; try omega) (ints_drop (RdI.below HR9.out b2) k) (fun u hu => one_ints u (by rw [List.map_drop] at hu; exact List.mem_of_mem_drop hu)) ?_ (by decide) hB2 ?_
                   · omega
                   intro g3 c3 w3 o3 gb3 hg3
                   have b3 : Below wr.heap.size wr w3 := Below.grown b2 gb3 hB2 (fun j hj => by have := Option.some.inj hj; have := own_ge o2; omega)
                   clear o2 gb3 hg3))
              all_goals
                have hle : k ≤ L.length := by omega
                have fin3 := Lib.hid (SrI.of_own (L := insI L x) (Below.next Hb0.out Q9.out.below) b3 o3 (by rw [hat.out]; simp))
                clear o3 hsz1 hsz2 kx1 kx2
                go_wp2_with fail
                go_roundg (n - (i + 1))
                case measure => omega
                case rel => exact ⟨i + 1, by omega, rfl, by go_num, by rw [hsn.out]; exact fin3.out⟩
            · by_cases hkc : cap = k
              · obtain rfl : k = L.length := by omega
                obtain rfl : cap = L.length := hkc
                clear hcont hrk q hc
                go_wp2_with fail
                go_quiet (fail)
                rename_i nq
                have Q9 : Hid (Q w0 (wy.drewN nq)) := Lib.hid (Q'.out.drew nq)
                have hc9 : (wy.drewN nq).cell? ⟨b, off + i, none⟩ = some (.int .i64 x) := hcy
                clear hcy
                obtain ⟨wr, hwr⟩ : ∃ W, W = wy.drewN nq := ⟨_, rfl⟩
                rw [← hwr]
                rw [← hwr] at Q9 hc9
                clear hwr
                have HR9 := Lib.hid (HR.out.q Q9.out)
                obtain ⟨kx1, kx2⟩ := cell_old wr hc9
                have hsz1 : ∀ o, wr.heap.size ≤ (wr.alloc o).heap.size := hsz_1 wr
                have hsz2 : ∀ o p, wr.heap.size ≤ ((wr.alloc o).alloc p).heap.size := hsz_2 wr
                have hblt : b < wr.heap.size := by rw [Q9.out.size]; exact Nat.lt_of_lt_of_le hbl (Nat.le_refl _)
                go_wp2_with fail
                go_region_law (first
                  | (refine step_app (wr.alloc (.cells #[] 3)).drew 22 3 (.int .i64 0) 8 Try.underlying22 hI_int rfl rfl (.tmp 35) (.tmp 38) rfl wr.heap.size _ _ _ [] rfl (own_heap (own_lit0 wr _ _ (Nat.le_refl _)) rfl) _ _ _ ((L.take L.length).map (Value.int .i64)) rfl ?_ (ints_take (RdI.below HR9.out (below_heap ((Below.refl _ _).alloc (Nat.le_refl _) _) ((Q.refl _).drew1))) L.length) (fun u hu => one_ints u (by rw [List.map_take] at hu; exact List.mem_of_mem_take hu)) ?_ (by decide) (hsz1 _) ?_
                     · rw [List.length_map, List.length_take]; omega
                     · omega
                     intro g1 c1 w1 o1 gb1 hg1
                     have b1 : Below wr.heap.size wr w1 := Below.grown (below_heap ((Below.refl _ _).alloc (Nat.le_refl _) _) ((Q.refl _).drew1)) gb1 (hsz1 _) (fun j hj => by have := Option.some.inj hj; omega)
                     skip
                     have kw : w1.cell? ⟨b, off + i, none⟩ = some (.int .i64 x) := (b1.cell (p := ⟨b, off + i, none⟩) hblt).trans hc9
                     have hB1 : wr.heap.size ≤ w1.heap.size := b1.size
                     have o1' : w1.ownsRow wr.heap.size 3 1 (.slice (some ⟨g1, 0, none⟩) L.length c1) L.length ((L.take L.length).map (Value.int .i64)) := by rw [Nat.zero_add] at o1; exact o1
                     clear o1 gb1 hg1)
                  | (refine step_app ((wr.alloc (.cells #[] 3)).alloc (.cells #[.int .i64 x] 3)).drew 22 3 (.int .i64 0) 8 Try.underlying22 hI_int rfl rfl (.tmp 35) (.tmp 38) rfl wr.heap.size _ _ _ [] rfl (own_heap ((own_lit0 wr _ _ (Nat.le_refl _)).alloc _) rfl) _ _ _ ((L.take L.length).map (Value.int .i64)) rfl ?_ (ints_take (RdI.below HR9.out (below_heap (((Below.refl _ _).alloc (Nat.le_refl _) _).alloc (hsz1 _) _) ((Q.refl _).drew1))) L.length) (fun u hu => one_ints u (by rw [List.map_take] at hu; exact List.mem_of_mem_take hu)) ?_ (by decide) (hsz2 _ _) ?_
                     · rw [List.length_map, List.length_take]; omega
                     · omega
                     intro g1 c1 w1 o1 gb1 hg1
                     have b1 : Below wr.heap.size wr w1 := Below.grown (below_heap (((Below.refl _ _).alloc (Nat.le_refl _) _).alloc (hsz1 _) _) ((Q.refl _).drew1)) gb1 (hsz2 _ _) (fun j hj => by have := Option.some.inj hj; omega)
                     have k40 : w1.cell? ⟨wr.heap.size + 1, 0, none⟩ = some (.int .i64 x) := World.grownBy.cell gb1 (cell2 wr _ _ _) (fun e => by have := Option.some.inj e; simp at this)
                     have kw : w1.cell? ⟨b, off + i, none⟩ = some (.int .i64 x) := (b1.cell (p := ⟨b, off + i, none⟩) hblt).trans hc9
                     have hB1 : wr.heap.size ≤ w1.heap.size := b1.size
                     have o1' : w1.ownsRow wr.heap.size 3 1 (.slice (some ⟨g1, 0, none⟩) L.length c1) L.length ((L.take L.length).map (Value.int .i64)) := by rw [Nat.zero_add] at o1; exact o1
                     clear o1 gb1 hg1)
                  | (refine step_app ((wr.alloc (.cells #[.int .i64 x] 3)).alloc (.cells #[] 3)).drew 22 3 (.int .i64 0) 8 Try.underlying22 hI_int rfl rfl (.tmp 35) (.tmp 38) rfl wr.heap.size _ _ _ [] rfl (own_lit1 wr _ _ _ (Nat.le_refl _)) _ _ _ ((L.take L.length).map (Value.int .i64)) rfl ?_ (ints_take (RdI.below HR9.out (below_heap (((Below.refl _ _).alloc (Nat.le_refl _) _).alloc (hsz1 _) _) ((Q.refl _).drew1))) L.length) (fun u hu => one_ints u (by rw [List.map_take] at hu; exact List.mem_of_mem_take hu)) ?_ (by decide) (hsz2 _ _) ?_
                     · rw [List.length_map, List.length_take]; omega
                     · omega
                     intro g1 c1 w1 o1 gb1 hg1
                     have b1 : Below wr.heap.size wr w1 := Below.grown (below_heap (((Below.refl _ _).alloc (Nat.le_refl _) _).alloc (hsz1 _) _) ((Q.refl _).drew1)) gb1 (hsz2 _ _) (fun j hj => by have := Option.some.inj hj; omega)
                     have k40 : w1.cell? ⟨wr.heap.size, 0, none⟩ = some (.int .i64 x) := World.grownBy.cell gb1 (cell1 wr _ _ _) (fun e => by have := Option.some.inj e; simp at this)
                     have kw : w1.cell? ⟨b, off + i, none⟩ = some (.int .i64 x) := (b1.cell (p := ⟨b, off + i, none⟩) hblt).trans hc9
                     have hB1 : wr.heap.size ≤ w1.heap.size := b1.size
                     have o1' : w1.ownsRow wr.heap.size 3 1 (.slice (some ⟨g1, 0, none⟩) L.length c1) L.length ((L.take L.length).map (Value.int .i64)) := by rw [Nat.zero_add] at o1; exact o1
                     clear o1 gb1 hg1)
                  | (refine step_app w1 22 3 (.int .i64 0) 8 Try.underlying22 hI_int rfl rfl (.tmp 39) (.tmp 44) rfl wr.heap.size _ _ _ ((L.take L.length).map (Value.int .i64)) rfl (o1') _ _ _ [.int .i64 x] rfl rfl (cell_single k40) (fun u hu => by obtain rfl := List.mem_singleton.1 hu; rfl) ?_ (by decide) (hB1) ?_
                     · omega
                     intro g2 c2 w2 o2 gb2 hg2
                     have b2 : Below wr.heap.size wr w2 := Below.grown (b1) gb2 (hB1) (fun j hj => by have := Option.some.inj hj; have := own_ge o1'; omega)
                     have hB2 : wr.heap.size ≤ w2.heap.size := b2.size
                     clear o1' gb2 hg2)
                  | (refine step_app (w1.alloc (.cells #[.int .i64 x] 3)) 22 3 (.int .i64 0) 8 Try.underlying22 hI_int rfl rfl (.tmp 39) (.tmp 44) rfl wr.heap.size _ _ _ ((L.take L.length).map (Value.int .i64)) rfl (o1'.alloc _) _ _ _ [.int .i64 x] rfl rfl (cell_one_new w1 _ _) (fun u hu => by obtain rfl := List.mem_singleton.1 hu; rfl) ?_ (by decide) (Nat.le_trans hB1 (by simp)) ?_
                     · omega
                     intro g2 c2 w2 o2 gb2 hg2
                     have b2 : Below wr.heap.size wr w2 := Below.grown (b1.alloc hB1 _) gb2 (Nat.le_trans hB1 (by simp)) (fun j hj => by have := Option.some.inj hj; have := own_ge o1'; omega)
                     have hB2 : wr.heap.size ≤ w2.heap.size := b2.size
                     clear o1' gb2 hg2)
                  | (refine step_app w2 22 3 (.int .i64 0) 8 Try.underlying22 hI_int rfl rfl (.tmp 45) (.tmp 48) rfl wr.heap.size _ _ _ ((L.take L.length).map (Value.int .i64) ++ [.int .i64 x]) rfl o2 _ _ _ ([]) rfl rfl (fun j u hu => by simp at hu) (fun u hu => by simp at hu) ?_ (by decide) hB2 ?_
                     · omega
                     intro g3 c3 w3 o3 gb3 hg3
                     have b3 : Below wr.heap.size wr w3 := Below.grown b2 gb3 hB2 (fun j hj => by have := Option.some.inj hj; have := own_ge o2; omega)
                     clear o2 gb3 hg3))
                all_goals
                  have fin3 := Lib.hid (SrI.of_own (L := insI L x) (Below.next Hb0.out Q9.out.below) b3 o3 (by rw [hat.out]; simp))
                  clear o3 hsz1 hsz2 kx1 kx2
                  go_wp2_with fail
                  go_roundg (n - (i + 1))
                  case measure => omega
                  case rel => exact ⟨i + 1, by omega, rfl, by go_num, by rw [hsn.out]; exact fin3.out⟩
              · have hkc2 : (k : Int) < cap := by omega
                have hkc3 : k ≤ cap := by omega
                have hlt3 : decide ((k : Int) < (L.length : Int)) = false := decide_eq_false (by omega)
                have hlt4 : decide (k < L.length) = false := decide_eq_false (by omega)
                clear hcont hrk q hc
                go_wp2_with fail
                go_quiet (fail)
                rename_i nq
                have Q9 : Hid (Q w0 (wy.drewN nq)) := Lib.hid (Q'.out.drew nq)
                have hc9 : (wy.drewN nq).cell? ⟨b, off + i, none⟩ = some (.int .i64 x) := hcy
                clear hcy
                obtain ⟨wr, hwr⟩ : ∃ W, W = wy.drewN nq := ⟨_, rfl⟩
                rw [← hwr]
                rw [← hwr] at Q9 hc9
                clear hwr
                have HR9 := Lib.hid (HR.out.q Q9.out)
                obtain ⟨kx1, kx2⟩ := cell_old wr hc9
                have hsz1 : ∀ o, wr.heap.size ≤ (wr.alloc o).heap.size := hsz_1 wr
                have hsz2 : ∀ o p, wr.heap.size ≤ ((wr.alloc o).alloc p).heap.size := hsz_2 wr
                have hblt : b < wr.heap.size := by rw [Q9.out.size]; exact Nat.lt_of_lt_of_le hbl (Nat.le_refl _)
                go_wp2_with fail
                go_region_law (first
                  | (refine step_app (wr.alloc (.cells #[] 3)).drew 22 3 (.int .i64 0) 8 Try.underlying22 hI_int rfl rfl (.tmp 35) (.tmp 38) rfl wr.heap.size _ _ _ [] rfl (own_heap (own_lit0 wr _ _ (Nat.le_refl _)) rfl) _ _ _ ((L.take k).map (Value.int .i64)) rfl ?_ (ints_take (RdI.below HR9.out (below_heap ((Below.refl _ _).alloc (Nat.le_refl _) _) ((Q.refl _).drew1))) k) (fun u hu => one_ints u (by rw [List.map_take] at hu; exact List.mem_of_mem_take hu)) ?_ (by decide) (hsz1 _) ?_
                     · rw [List.length_map, List.length_take]; omega
                     · omega
                     intro g1 c1 w1 o1 gb1 hg1
                     have b1 : Below wr.heap.size wr w1 := Below.grown (below_heap ((Below.refl _ _).alloc (Nat.le_refl _) _) ((Q.refl _).drew1)) gb1 (hsz1 _) (fun j hj => by have := Option.some.inj hj; omega)
                     skip
                     have kw : w1.cell? ⟨b, off + i, none⟩ = some (.int .i64 x) := (b1.cell (p := ⟨b, off + i, none⟩) hblt).trans hc9
                     have hB1 : wr.heap.size ≤ w1.heap.size := b1.size
                     have o1' : w1.ownsRow wr.heap.size 3 1 (.slice (some ⟨g1, 0, none⟩) k c1) k ((L.take k).map (Value.int .i64)) := by rw [Nat.zero_add] at o1; exact o1
                     clear o1 gb1 hg1)
                  | (refine step_app ((wr.alloc (.cells #[] 3)).alloc (.cells #[.int .i64 x] 3)).drew 22 3 (.int .i64 0) 8 Try.underlying22 hI_int rfl rfl (.tmp 35) (.tmp 38) rfl wr.heap.size _ _ _ [] rfl (own_heap ((own_lit0 wr _ _ (Nat.le_refl _)).alloc _) rfl) _ _ _ ((L.take k).map (Value.int .i64)) rfl ?_ (ints_take (RdI.below HR9.out (below_heap (((Below.refl _ _).alloc (Nat.le_refl _) _).alloc (hsz1 _) _) ((Q.refl _).drew1))) k) (fun u hu => one_ints u (by rw [List.map_take] at hu; exact List.mem_of_mem_take hu)) ?_ (by decide) (hsz2 _ _) ?_
                     · rw [List.length_map, List.length_take]; omega
                     · omega
                     intro g1 c1 w1 o1 gb1 hg1
                     have b1 : Below wr.heap.size wr w1 := Below.grown (below_heap (((Below.refl _ _).alloc (Nat.le_refl _) _).alloc (hsz1 _) _) ((Q.refl _).drew1)) gb1 (hsz2 _ _) (fun j hj => by have := Option.some.inj hj; omega)
                     have k40 : w1.cell? ⟨wr.heap.size + 1, 0, none⟩ = some (.int .i64 x) := World.grownBy.cell gb1 (cell2 wr _ _ _) (fun e => by have := Option.some.inj e; simp at this)
                     have kw : w1.cell? ⟨b, off + i, none⟩ = some (.int .i64 x) := (b1.cell (p := ⟨b, off + i, none⟩) hblt).trans hc9
                     have hB1 : wr.heap.size ≤ w1.heap.size := b1.size
                     have o1' : w1.ownsRow wr.heap.size 3 1 (.slice (some ⟨g1, 0, none⟩) k c1) k ((L.take k).map (Value.int .i64)) := by rw [Nat.zero_add] at o1; exact o1
                     clear o1 gb1 hg1)
                  | (refine step_app ((wr.alloc (.cells #[.int .i64 x] 3)).alloc (.cells #[] 3)).drew 22 3 (.int .i64 0) 8 Try.underlying22 hI_int rfl rfl (.tmp 35) (.tmp 38) rfl wr.heap.size _ _ _ [] rfl (own_lit1 wr _ _ _ (Nat.le_refl _)) _ _ _ ((L.take k).map (Value.int .i64)) rfl ?_ (ints_take (RdI.below HR9.out (below_heap (((Below.refl _ _).alloc (Nat.le_refl _) _).alloc (hsz1 _) _) ((Q.refl _).drew1))) k) (fun u hu => one_ints u (by rw [List.map_take] at hu; exact List.mem_of_mem_take hu)) ?_ (by decide) (hsz2 _ _) ?_
                     · rw [List.length_map, List.length_take]; omega
                     · omega
                     intro g1 c1 w1 o1 gb1 hg1
                     have b1 : Below wr.heap.size wr w1 := Below.grown (below_heap (((Below.refl _ _).alloc (Nat.le_refl _) _).alloc (hsz1 _) _) ((Q.refl _).drew1)) gb1 (hsz2 _ _) (fun j hj => by have := Option.some.inj hj; omega)
                     have k40 : w1.cell? ⟨wr.heap.size, 0, none⟩ = some (.int .i64 x) := World.grownBy.cell gb1 (cell1 wr _ _ _) (fun e => by have := Option.some.inj e; simp at this)
                     have kw : w1.cell? ⟨b, off + i, none⟩ = some (.int .i64 x) := (b1.cell (p := ⟨b, off + i, none⟩) hblt).trans hc9
                     have hB1 : wr.heap.size ≤ w1.heap.size := b1.size
                     have o1' : w1.ownsRow wr.heap.size 3 1 (.slice (some ⟨g1, 0, none⟩) k c1) k ((L.take k).map (Value.int .i64)) := by rw [Nat.zero_add] at o1; exact o1
                     clear o1 gb1 hg1)
                  | (refine step_app w1 22 3 (.int .i64 0) 8 Try.underlying22 hI_int rfl rfl (.tmp 39) (.tmp 44) rfl wr.heap.size _ _ _ ((L.take k).map (Value.int .i64)) rfl (o1') _ _ _ [.int .i64 x] rfl rfl (cell_single k40) (fun u hu => by obtain rfl := List.mem_singleton.1 hu; rfl) ?_ (by decide) (hB1) ?_
                     · omega
                     intro g2 c2 w2 o2 gb2 hg2
                     have b2 : Below wr.heap.size wr w2 := Below.grown (b1) gb2 (hB1) (fun j hj => by have := Option.some.inj hj; have := own_ge o1'; omega)
                     have hB2 : wr.heap.size ≤ w2.heap.size := b2.size
                     clear o1' gb2 hg2)
                  | (refine step_app (w1.alloc (.cells #[.int .i64 x] 3)) 22 3 (.int .i64 0) 8 Try.underlying22 hI_int rfl rfl (.tmp 39) (.tmp 44) rfl wr.heap.size _ _ _ ((L.take k).map (Value.int .i64)) rfl (o1'.alloc _) _ _ _ [.int .i64 x] rfl rfl (cell_one_new w1 _ _) (fun u hu => by obtain rfl := List.mem_singleton.1 hu; rfl) ?_ (by decide) (Nat.le_trans hB1 (by simp)) ?_
                     · omega
                     intro g2 c2 w2 o2 gb2 hg2
                     have b2 : Below wr.heap.size wr w2 := Below.grown (b1.alloc hB1 _) gb2 (Nat.le_trans hB1 (by simp)) (fun j hj => by have := Option.some.inj hj; have := own_ge o1'; omega)
                     have hB2 : wr.heap.size ≤ w2.heap.size := b2.size
                     clear o1' gb2 hg2)
                  | (refine step_app w2 22 3 (.int .i64 0) 8 Try.underlying22 hI_int rfl rfl (.tmp 45) (.tmp 48) rfl wr.heap.size _ _ _ ((L.take k).map (Value.int .i64) ++ [.int .i64 x]) rfl o2 _ _ _ ((L.drop k).map (Value.int .i64)) rfl (by simp only [List.length_map, List.length_drop]; try omega) (ints_drop (RdI.below HR9.out b2) k) (fun u hu => one_ints u (by rw [List.map_drop] at hu; exact List.mem_of_mem_drop hu)) ?_ (by decide) hB2 ?_
                     · omega
                     intro g3 c3 w3 o3 gb3 hg3
                     have b3 : Below wr.heap.size wr w3 := Below.grown b2 gb3 hB2 (fun j hj => by have := Option.some.inj hj; have := own_ge o2; omega)
                     clear o2 gb3 hg3))
                all_goals
                  have hle : k ≤ L.length := by omega
                  have fin3 := Lib.hid (SrI.of_own (L := insI L x) (Below.next Hb0.out Q9.out.below) b3 o3 (by rw [hat.out]; simp))
                  clear o3 hsz1 hsz2 kx1 kx2
                  go_wp2_with fail
                  go_roundg (n - (i + 1))
                  case measure => omega
                  case rel => exact ⟨i + 1, by omega, rfl, by go_num, by rw [hsn.out]; exact fin3.out⟩
    · obtain rfl : i = n := by omega
      have fin : Hid (xs.take i = xs) := Lib.hid (List.take_of_length_le (by rw [hxl.out]; exact Nat.le_refl _))
      have HI := Lib.hid hI
      clear hI
      go_wp2_with fail
      go_ret
      exact ⟨_, rfl, by have := HI.out; rwa [fin.out] at this⟩
end Go.Proofs.Ytoeacocijcammaa
