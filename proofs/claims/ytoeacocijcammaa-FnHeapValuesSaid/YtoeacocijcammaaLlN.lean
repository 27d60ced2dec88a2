/- The reference's positions behind a move: l17After, l17Value. -/
import Derived.Test.YtoeacocijcammaaLlM
import Derived.Test.YtoeacocijcammaaLlJ
namespace Go.Proofs.Ytoeacocijcammaa
open Go.RowKit

/-- append of a slice at any address to a row of the call's own. -/
theorem appS {P : Program} {ops : Array Oper} {rest : List Oper} {o : Oper} {a : Act} {Q : Exit → Act → World → Prop} (w : World) (T E : TypeId) (z : Value) (bytes : Nat)
    (hT : P.underlying T = some (.slice E)) (hI : (P.info? E).map (fun i => (i.zero, i.size, i.bytes)) = some (some z, 1, bytes)) (hz : z.cells.size = 1) (hgd : o.guard = none) (s x : Operand)
    (ho : o.op = .call { callee := .builtin .append, args := #[s, x], argTypes := #[T, T] })
    (base g0 n c : Nat) (xs : List Value) (hs : a.eval s = .slice (some ⟨g0, 0, none⟩) n c) (hown : w.ownsRow base E 1 (.slice (some ⟨g0, 0, none⟩) n c) n xs)
    (ad : Addr) (m d : Nat) (us : List Value) (hx : a.eval x = .slice (some ad) m d) (hus : us.length = m) (hcells : ∀ j u, us[j]? = some u → w.cell? (ad.add j) = some u) (hone : ∀ u ∈ us, u.oneCell' = true)
    (hlen : n + m ≤ 100000000) (hby : bytes ≤ 1000) (hbase : base ≤ w.heap.size)
    (h : ∀ g cap w', w'.ownsRow base E 1 (.slice (some ⟨g, 0, none⟩) (n + m) cap) (n + m) (xs ++ us) → w.grownBy w' (some g0) → (g = g0 ∨ w.heap.size ≤ g) → wpList P ops Q rest (a.put o.dst (.slice (some ⟨g, 0, none⟩) (n + m) cap)) w') :
    wpList P ops Q (o :: rest) a w := by
  obtain ⟨i, hi, hz0, hz1, hz2⟩ := info_parts hI
  have hbb : (n + m) * bytes ≤ 140737488355328 := by
    have : (n + m) * bytes ≤ 100000000 * 1000 := Nat.mul_le_mul hlen hby
    omega
  refine wpList_append_own_at w hgd s x T ho base E i z 1 bytes hT hi hz0 hz1 hz2 hz (by decide) _ n xs hs hown ad m d us hx (by omega) hcells hone (by unfold maxLen; omega) hbb hbase ?_
  intro v' w' h2 h3 h4 h5
  rcases h2.2 with ⟨he, h0⟩ | ⟨g, cap, cur, he, r⟩
  · exact absurd (h4.1 he).1 (by simp)
  · subst he
    refine h g cap w' h2 h3 ?_
    rcases h5 with h5 | h5
    · left; exact Option.some.inj (show some g = some g0 from h5)
    · right; have : g = w.heap.size := Option.some.inj (show some g = some w.heap.size from h5)
      omega
theorem SrI.after {w w4 w5 : World} {v : Value} {L : List Int} (h : SrI w4 w5 v L) (hb : Below w.heap.size w w4) : SrI w w5 v L := by
  obtain ⟨g, o, c, e, hr, hc, h2, h3, h4, h5⟩ := h
  exact ⟨g, o, c, e, hr, hc, Below.next hb h2, Nat.le_trans hb.size h3, h4, own_low h5 hb.size⟩
theorem ints_all {w : World} {ad : Addr} {n : Nat} {xs : List Int} (h : RdI w (some ad) n xs) : ∀ j u, (xs.map (Value.int .i64))[j]? = some u → w.cell? (ad.add j) = some u := by
  intro j u hu
  have hj : j < xs.length := by
    rcases Nat.lt_or_ge j xs.length with h1 | h1
    · exact h1
    · rw [List.getElem?_eq_none (by simpa using h1)] at hu; cases hu
  obtain ⟨b, off, e, hb, hc⟩ := RdV.at_ h (k := j) (by rw [← h.len]; exact hj)
  cases e
  have e2 : (⟨b, off, none⟩ : Addr).add j = ⟨b, off + j, none⟩ := by
    unfold Addr.add; split <;> simp_all
  rw [e2]; exact hc j u hu
set_option maxRecDepth 100000 in
set_option maxHeartbeats 3200000 in
theorem s_l17After (g o n c : Nat) (hs : List Int) (k : Nat) (ad : Addr) (m d : Nat) (ms : List Int) (wr : World) (rd : RdI wr (some ⟨g, o, none⟩) n hs) (hcap : n ≤ c) (hk : k < n) (rm : RdI wr (some ad) m ms) (hn : n ≤ 100000) (hm : m ≤ 100000) :
    Calls Try.prog 55 #[.slice (some ⟨g, o, none⟩) n c, .int .i64 k, .slice (some ad) m d] wr fun e w' => ∃ v, e = .returned v ∧ SrI wr w' v (srtR [] (hs.take k ++ hs.drop (k + 1) ++ ms)) := by
  have hl : Hid (hs.length = n) := Lib.hid rd.len
  have hml : Hid (ms.length = m) := Lib.hid rm.len
  have HR := Lib.hid rd
  have HM := Lib.hid rm
  have hsz1 : ∀ o, wr.heap.size ≤ (wr.alloc o).heap.size := hsz_1 wr
  have k1 : (0 : Int) ≤ (k : Int) + 1 := by omega
  have k2 : (k : Int) + 1 ≤ n := by omega
  have k3 : k ≤ n := by omega
  have k4 : k ≤ c := by omega
  have k5 : ((k : Int) + 1).toNat = k + 1 := by omega
  have k6 : k + 1 ≤ n := by omega
  have k7 : (k : Int) ≤ (k : Int) + 1 := by omega
  have k8 : IntKind.i64.wrap ((k : Int) + 1) = (k : Int) + 1 := IntWalk.i64_in _ (by omega)
  clear rd rm
  by_cases hkc : c = k + 1
  · obtain rfl : n = k + 1 := by omega
    subst hkc
    go_enter Try.func55, Try.ntmps55
    go_wp2_with fail
    go_region_law (first
            | (refine step_app (wr.alloc (.cells #[] 3)).drew 22 3 (.int .i64 0) 8 Try.underlying22 hI_int rfl rfl (.tmp 8) (.tmp 11) rfl wr.heap.size _ _ _ [] rfl (own_heap (own_lit0 wr _ _ (Nat.le_refl _)) rfl) _ _ _ ((hs.take k).map (Value.int .i64)) rfl ?_ (ints_take (RdI.below HR.out (below_heap ((Below.refl _ _).alloc (Nat.le_refl _) _) ((Q.refl _).drew1))) k) (fun u hu => one_ints u (by rw [List.map_take] at hu; exact List.mem_of_mem_take hu)) ?_ (by decide) (hsz1 _) ?_
               · rw [List.length_map, List.length_take, hl.out]; omega
               · omega
               intro g1 c1 w1 o1 gb1 hg1
               have b1 : Below wr.heap.size wr w1 := Below.grown (below_heap ((Below.refl _ _).alloc (Nat.le_refl _) _) ((Q.refl _).drew1)) gb1 (hsz1 _) (fun j hj => by have := Option.some.inj hj; omega)
               skip
               skip
               have hB1 : wr.heap.size ≤ w1.heap.size := b1.size
               have o1' : w1.ownsRow wr.heap.size 3 1 (.slice (some ⟨g1, 0, none⟩) k c1) k ((hs.take k).map (Value.int .i64)) := by rw [Nat.zero_add] at o1; exact o1
               clear o1 gb1 hg1)
            | (refine step_app w1 22 3 (.int .i64 0) 8 Try.underlying22 hI_int rfl rfl (.tmp 12) (.tmp 16) rfl wr.heap.size _ _ _ ((hs.take k).map (Value.int .i64)) rfl o1' _ _ _ ([]) rfl rfl (fun j u hu => by simp at hu) (fun u hu => by simp at hu) ?_ (by decide) hB1 ?_
               · omega
               intro g3 c3 w3 o3 gb3 hg3
               have b3 : Below wr.heap.size wr w3 := Below.grown b1 gb3 hB1 (fun j hj => by have := Option.some.inj hj; have := own_ge o1'; omega)
               clear o1' gb3 hg3))
    all_goals
      have o4 : w3.ownsRow wr.heap.size 3 1 (.slice (some ⟨g3, 0, none⟩) (k) c3) (k) ((hs.take k ++ hs.drop (k + 1)).map (Value.int .i64)) := by
        rw [List.append_nil] at o3; rw [List.drop_of_length_le (by rw [hl.out]; exact Nat.le_refl _), List.append_nil]; exact o3
      have O4 := Lib.hid o4
      have hB3 : wr.heap.size ≤ w3.heap.size := b3.size
      have B3 := Lib.hid b3
      have hN : Hid ((hs.take k ++ hs.drop (k + 1) ++ ms).length = (k) + m) := Lib.hid (by simp only [List.length_append, List.length_take, List.length_drop, hl.out, hml.out]; omega)
      clear o3 o4 b3 k8 k5
      go_wp2_with (at_builtin; refine appS _ 22 3 (.int .i64 0) 8 Try.underlying22 hI_int rfl rfl (.tmp 18) (.tmp 19) rfl wr.heap.size _ _ _ _ rfl O4.out ad m d (ms.map (Value.int .i64)) rfl (by rw [List.length_map, hml.out]) (ints_all (HM.out.below B3.out)) one_ints (by omega) (by omega) hB3 ?_; intro g4 c4 w4 o5 gb4 hg4)
      have b4 : Below wr.heap.size wr w4 := Below.grown B3.out gb4 hB3 (fun j hj => by have := Option.some.inj hj; have := own_ge O4.out; omega)
      have r4 : RdI w4 (some ⟨g4, 0, none⟩) ((k) + m) (hs.take k ++ hs.drop (k + 1) ++ ms) := by
        have := RdV.of_own o5
        rw [← List.map_append] at this
        exact this
      have HS := s_l17Sorted _ _ c4 _ w4 r4 (by omega)
      have B4 := Lib.hid b4
      clear o5 gb4 hg4 b4 r4 hB3
      go_wp2_with fail
      refine HS.mono ?_
      rintro e w5 ⟨v, rfl, hI⟩
      have hI := Lib.hid (hI.after B4.out)
      go_wp2_with fail
      go_ret
      exact ⟨_, rfl, hI.out⟩
  · go_enter Try.func55, Try.ntmps55
    go_wp2_with fail
    go_region_law (first
            | (refine step_app (wr.alloc (.cells #[] 3)).drew 22 3 (.int .i64 0) 8 Try.underlying22 hI_int rfl rfl (.tmp 8) (.tmp 11) rfl wr.heap.size _ _ _ [] rfl (own_heap (own_lit0 wr _ _ (Nat.le_refl _)) rfl) _ _ _ ((hs.take k).map (Value.int .i64)) rfl ?_ (ints_take (RdI.below HR.out (below_heap ((Below.refl _ _).alloc (Nat.le_refl _) _) ((Q.refl _).drew1))) k) (fun u hu => one_ints u (by rw [List.map_take] at hu; exact List.mem_of_mem_take hu)) ?_ (by decide) (hsz1 _) ?_
               · rw [List.length_map, List.length_take, hl.out]; omega
               · omega
               intro g1 c1 w1 o1 gb1 hg1
               have b1 : Below wr.heap.size wr w1 := Below.grown (below_heap ((Below.refl _ _).alloc (Nat.le_refl _) _) ((Q.refl _).drew1)) gb1 (hsz1 _) (fun j hj => by have := Option.some.inj hj; omega)
               skip
               skip
               have hB1 : wr.heap.size ≤ w1.heap.size := b1.size
               have o1' : w1.ownsRow wr.heap.size 3 1 (.slice (some ⟨g1, 0, none⟩) k c1) k ((hs.take k).map (Value.int .i64)) := by rw [Nat.zero_add] at o1; exact o1
               clear o1 gb1 hg1)
            | (refine step_app w1 22 3 (.int .i64 0) 8 Try.underlying22 hI_int rfl rfl (.tmp 12) (.tmp 16) rfl wr.heap.size _ _ _ ((hs.take k).map (Value.int .i64)) rfl o1' _ _ _ ((hs.drop (k + 1)).map (Value.int .i64)) rfl (by simp only [List.length_map, List.length_drop, hl.out]; try omega) (ints_drop (RdI.below HR.out b1) (k + 1)) (fun u hu => one_ints u (by rw [List.map_drop] at hu; exact List.mem_of_mem_drop hu)) ?_ (by decide) hB1 ?_
               · omega
               intro g3 c3 w3 o3 gb3 hg3
               have b3 : Below wr.heap.size wr w3 := Below.grown b1 gb3 hB1 (fun j hj => by have := Option.some.inj hj; have := own_ge o1'; omega)
               clear o1' gb3 hg3))
    all_goals
      have o4 : w3.ownsRow wr.heap.size 3 1 (.slice (some ⟨g3, 0, none⟩) (k + (n - (k + 1))) c3) (k + (n - (k + 1))) ((hs.take k ++ hs.drop (k + 1)).map (Value.int .i64)) := by
        rw [List.map_append]; exact o3
      have O4 := Lib.hid o4
      have hB3 : wr.heap.size ≤ w3.heap.size := b3.size
      have B3 := Lib.hid b3
      have hN : Hid ((hs.take k ++ hs.drop (k + 1) ++ ms).length = (k + (n - (k + 1))) + m) := Lib.hid (by simp only [List.length_append, List.length_take, List.length_drop, hl.out, hml.out]; omega)
      clear o3 o4 b3 k8 k5
      go_wp2_with (at_builtin; refine appS _ 22 3 (.int .i64 0) 8 Try.underlying22 hI_int rfl rfl (.tmp 18) (.tmp 19) rfl wr.heap.size _ _ _ _ rfl O4.out ad m d (ms.map (Value.int .i64)) rfl (by rw [List.length_map, hml.out]) (ints_all (HM.out.below B3.out)) one_ints (by omega) (by omega) hB3 ?_; intro g4 c4 w4 o5 gb4 hg4)
      have b4 : Below wr.heap.size wr w4 := Below.grown B3.out gb4 hB3 (fun j hj => by have := Option.some.inj hj; have := own_ge O4.out; omega)
      have r4 : RdI w4 (some ⟨g4, 0, none⟩) ((k + (n - (k + 1))) + m) (hs.take k ++ hs.drop (k + 1) ++ ms) := by
        have := RdV.of_own o5
        rw [← List.map_append] at this
        exact this
      have HS := s_l17Sorted _ _ c4 _ w4 r4 (by omega)
      have B4 := Lib.hid b4
      clear o5 gb4 hg4 b4 r4 hB3
      go_wp2_with fail
      refine HS.mono ?_
      rintro e w5 ⟨v, rfl, hI⟩
      have hI := Lib.hid (hI.after B4.out)
      go_wp2_with fail
      go_ret
      exact ⟨_, rfl, hI.out⟩
end Go.Proofs.Ytoeacocijcammaa
