/- The reference's place of a list: l17Put. -/
import Derived.Test.YtoeacocijcammaaLlB
namespace Go.Proofs.Ytoeacocijcammaa
open Go.RowKit

/-- append onto a row of the call's own, as a step of a region that draws its order. -/
theorem step_app {P : Program} {ops : Array Oper} {o : Oper} {a : Act} {K : Act → World → Prop} {Q : Exit → Act → World → Prop} {E' : Prop} (w : World) (T E : TypeId) (z : Value) (bytes : Nat)
    (hT : P.underlying T = some (.slice E)) (hI : (P.info? E).map (fun i => (i.zero, i.size, i.bytes)) = some (some z, 1, bytes)) (hz : z.cells.size = 1) (hgd : o.guard = none) (s x : Operand)
    (ho : o.op = .call { callee := .builtin .append, args := #[s, x], argTypes := #[T, T] })
    (base : Nat) (g0 : Nat) (n c : Nat) (xs : List Value) (hs : a.eval s = .slice (some ⟨g0, 0, none⟩) n c) (hown : w.ownsRow base E 1 (.slice (some ⟨g0, 0, none⟩) n c) n xs)
    (ad : Addr) (m d : Nat) (us : List Value) (hx : a.eval x = .slice (some ad) m d) (hus : us.length = m) (hcells : ∀ j u, us[j]? = some u → w.cell? (ad.add j) = some u) (hone : ∀ u ∈ us, u.oneCell' = true)
    (hlen : n + m ≤ 100000000) (hby : bytes ≤ 1000) (hbase : base ≤ w.heap.size)
    (h : ∀ g cap w', w'.ownsRow base E 1 (.slice (some ⟨g, 0, none⟩) (n + m) cap) (n + m) (xs ++ us) → w.grownBy w' (some g0) → (g = g0 ∨ w.heap.size ≤ g) → K (a.put o.dst (.slice (some ⟨g, 0, none⟩) (n + m) cap)) w') :
    if Region.wanted o (yielded ops a.tmps) = true then Oper.wp P o a w K Q else E' := by
  have hw : Region.wanted o (yielded ops a.tmps) = true := by simp [Region.wanted, hgd]
  rw [if_pos hw]
  obtain ⟨i, hi, hz0, hz1, hz2⟩ := info_parts hI
  have hbb : (n + m) * bytes ≤ 140737488355328 := by
    have : (n + m) * bytes ≤ 100000000 * 1000 := Nat.mul_le_mul hlen hby
    omega
  obtain ⟨v', w', hr, h2, h3, h4, h5⟩ := run_append_own_at (P := P) w base T o.type E i z 1 bytes hT hi hz0 hz1 hz2 hz (by decide) _ n xs hown ad m d us (by omega) hcells hone (by unfold maxLen; omega) hbb hbase
  unfold Oper.wp execOp
  simp only [ho, resolve, invoke, builtin, Sem.run_bind, Sem.run_pure, Result.andThen_ok, List.map_toArray, List.map_cons, List.map_nil, hs, hx, hr]
  rcases h2.2 with ⟨he, h0⟩ | ⟨g, cap, cur, he, r⟩
  · exact absurd (h4.1 he).1 (by simp)
  · subst he
    refine h g cap w' h2 h3 ?_
    rcases h5 with h5 | h5
    · left; exact Option.some.inj (show some g = some g0 from h5)
    · right; have : g = w.heap.size := Option.some.inj (show some g = some w.heap.size from h5)
      omega
theorem hI_row : (Try.prog.info? 22).map (fun i => (i.zero, i.size, i.bytes)) = some (some (.slice none 0 0), 1, 24) := by kernel_rfl
/-- A block laid whole is owned. -/
theorem own_block {w : World} {base g n : Nat} {E : TypeId} {cs : Array Value} (h : w.heap[g]? = some (.cells cs E (0, 0))) (hb : base ≤ g) (hn : cs.size = n) (hm : n ≤ 1000) : w.ownsRow base E 1 (.slice (some ⟨g, 0, none⟩) n n) n cs.toList :=
  ⟨by simp [hn], .inr ⟨g, n, cs, rfl, hb, h, Nat.le_refl _, by unfold maxLen; omega, by omega, by
    rw [List.take_of_length_le (by simp [hn])]⟩⟩
theorem rows_cells {w : World} {b off n : Nat} {rs : List Row} (h : RdL w (some ⟨b, off, none⟩) n rs) (i k : Nat) : ∀ j u, (((rs.map Row.val).drop i).take k)[j]? = some u → w.cell? ((⟨b, off + i, none⟩ : Addr).add j) = some u := by
  intro j u hu
  have hj : j < k := by
    rcases Nat.lt_or_ge j k with h1 | h1
    · exact h1
    · rw [List.getElem?_eq_none (by simp; omega)] at hu; cases hu
  rw [List.getElem?_take_of_lt hj, List.getElem?_drop] at hu
  have hi : i + j < rs.length := by
    rcases Nat.lt_or_ge (i + j) rs.length with h1 | h1
    · exact h1
    · rw [List.getElem?_eq_none (by simpa using h1)] at hu; cases hu
  obtain ⟨b', off', e, hb, hc⟩ := RdV.at_ h.1 (k := i + j) (by rw [← h.len]; exact hi)
  cases e
  have := hc (i + j) u hu
  have e2 : (⟨b, off + i, none⟩ : Addr).add j = ⟨b, off + (i + j), none⟩ := by
    unfold Addr.add; split <;> simp_all <;> omega
  rw [e2]; exact this

theorem own_heap {w w' : World} {base : Nat} {E : TypeId} {v : Value} {n : Nat} {xs : List Value} (h : w.ownsRow base E 1 v n xs) (e : w'.heap = w.heap) : w'.ownsRow base E 1 v n xs := by
  obtain ⟨h0, h1⟩ := h
  refine ⟨h0, ?_⟩
  rcases h1 with h1 | ⟨g, cap, cur, e1, hg, hb, r⟩
  · exact .inl h1
  · exact .inr ⟨g, cap, cur, e1, hg, by rw [e]; exact hb, r⟩
theorem own_lit1 (w : World) (o : Obj) (E : TypeId) (base : Nat) (hb : base ≤ w.heap.size) : ((w.alloc o).alloc (.cells #[] E)).drew.ownsRow base E 1 (.slice (some ⟨w.heap.size + 1, 0, none⟩) 0 0) 0 [] := by
  have h := own_lit0 (w.alloc o) E base (Nat.le_trans hb (by simp))
  simp only [World.size_alloc] at h
  exact own_heap h rfl
theorem below_heap {a w w' : World} {base : Nat} (h : Below base a w) (q : Q w w') : Below base a w' := by
  obtain ⟨n, rfl⟩ := q
  exact ⟨h.os, h.tape, h.output, h.size, h.block⟩
theorem Q.drew1 {w w' : World} (h : Q w w') : Q w w'.drew := h.drew 1
theorem RdL.of_own {w : World} {base g c n : Nat} {rs : List Row} (h : w.ownsRow base 22 1 (.slice (some ⟨g, 0, none⟩) n c) n (rs.map Row.val)) (hr : ∀ r ∈ rs, r.rd w) : RdL w (some ⟨g, 0, none⟩) rs.length rs := by
  have e : rs.length = n := by simpa using (RdV.of_own h).len
  rw [e]
  exact ⟨RdV.of_own h, hr⟩
theorem own_ge {w : World} {base g c n : Nat} {E : TypeId} {xs : List Value} (h : w.ownsRow base E 1 (.slice (some ⟨g, 0, none⟩) n c) n xs) : base ≤ g := (h.lt g rfl).1
theorem own_cap {w : World} {base g c n : Nat} {E : TypeId} {xs : List Value} (h : w.ownsRow base E 1 (.slice (some ⟨g, 0, none⟩) n c) n xs) : n ≤ c := by
  rcases h.2 with ⟨he, _⟩ | ⟨g', cap, cur, he, _, _, hn, _⟩
  · cases he
  · cases he; exact hn

theorem hsz_1 (w : World) (o : Obj) : w.heap.size ≤ (w.alloc o).heap.size := by simp
theorem hsz_2 (w : World) (o p : Obj) : w.heap.size ≤ ((w.alloc o).alloc p).heap.size := by simp; omega
theorem cell1 (w : World) (u : Value) (E : TypeId) (o : Obj) : ((w.alloc (.cells #[u] E)).alloc o).drew.cell? ⟨w.heap.size, 0, none⟩ = some u := by
  have h : (w.alloc (.cells #[u] E)).cell? ⟨w.heap.size, 0, none⟩ = some u := cell_one_new w u E 0 u rfl
  exact cell_alloc h o
theorem cell2 (w : World) (u : Value) (E : TypeId) (o : Obj) : ((w.alloc o).alloc (.cells #[u] E)).drew.cell? ⟨w.heap.size + 1, 0, none⟩ = some u := by
  have h := cell_one_new (w.alloc o) u E 0 u rfl
  simp only [World.size_alloc] at h
  exact h
theorem cell_single {w : World} {N : Nat} {v : Value} (h : w.cell? ⟨N, 0, none⟩ = some v) : ∀ j u, [v][j]? = some u → w.cell? ((⟨N, 0, none⟩ : Addr).add j) = some u := by
  intro j u hu
  cases j with
  | zero => cases hu; exact h
  | succ j => simp at hu
/-- What l17Put hands back. -/
def PutP (w : World) (rs : List Row) (r : Row) (ms : List (List Int)) (e : Ending) (w' : World) : Prop := ∃ g' o' c' rs', e = .returned (.slice (some ⟨g', o', none⟩) rs'.length c') ∧
      RdL w' (some ⟨g', o', none⟩) rs'.length rs' ∧ rs'.length ≤ c' ∧ nums rs' = ms ∧ Below w.heap.size w w' ∧ ∀ s ∈ rs', s = r ∨ s ∈ rs
theorem put_end {w wr w3 : World} {A : Option Addr} {g3 c3 k n m : Nat} {rs : List Row} {r : Row} (q : Q w wr) (b3 : Below wr.heap.size wr w3) (hL : RdL wr A n rs) (hr : r.rd wr) (hm : m = n + 1)
    (o3 : w3.ownsRow wr.heap.size 22 1 (.slice (some ⟨g3, 0, none⟩) m c3) m ((rs.map Row.val).take k ++ [r.val] ++ (rs.map Row.val).drop k)) {ms : List (List Int)} (fin : ms = (nums rs).take k ++ r.xs :: (nums rs).drop k) :
    PutP w rs r ms (.returned (.slice (some ⟨g3, 0, none⟩) m c3)) w3 := by
  have hl : (rs.take k ++ r :: rs.drop k).length = m := by
    have := hL.len
    rw [List.length_append, List.length_cons, List.length_take, List.length_drop]; omega
  have e : (rs.map Row.val).take k ++ [r.val] ++ (rs.map Row.val).drop k = (rs.take k ++ r :: rs.drop k).map Row.val := by simp
  rw [e] at o3
  refine ⟨g3, 0, c3, rs.take k ++ r :: rs.drop k, by rw [hl], RdL.of_own o3 (fun s hs => ?_), by rw [hl]; exact own_cap o3, by rw [fin]; simp, Below.next q.below b3, fun s hs => ?_⟩
  rotate_left
  · simp only [List.mem_append, List.mem_cons] at hs
    rcases hs with h | rfl | h
    · exact .inr (List.mem_of_mem_take h)
    · exact .inl rfl
    · exact .inr (List.mem_of_mem_drop h)
  simp only [List.mem_append, List.mem_cons] at hs
  rcases hs with h | rfl | h
  · exact (hL.2 s (List.mem_of_mem_take h)).below b3
  · exact RdI.below hr b3
  · exact (hL.2 s (List.mem_of_mem_drop h)).below b3

set_option maxRecDepth 100000 in
set_option maxHeartbeats 3200000 in
theorem c_l17Put (g o n c : Nat) (rs : List Row) (r : Row) (w : World) (hL : RdL w (some ⟨g, o, none⟩) n rs) (hcap : n ≤ c) (hr : r.rd w) (hn : n ≤ 1000000) (hl : ∀ s ∈ rs, s.xs.length ≤ 100000000) (hrl : r.xs.length ≤ 100000000) :
    Calls Try.prog 62 #[.slice (some ⟨g, o, none⟩) n c, .slice r.A r.xs.length r.c] w (PutP w rs r (putL (nums rs) r.xs)) := by
  have hlen := Lib.hid hL.len
  go_enter Try.func62, Try.ntmps62
  go_wp2_with fail
  go_loopw [5] (fun i wr => ∃ k : Nat, k ≤ n ∧ i = .int .i64 k ∧ Q w wr ∧ Hid (∀ j, j < k → LtH ((nums rs).getD j []) r.xs)) (fun i _ => n - (intOf i).toNat)
  case atStart => exact ⟨0, Nat.zero_le _, rfl, Q.refl _, Lib.hid (fun j hj => absurd hj (by omega))⟩
  case round =>
    rename_i wr
    obtain ⟨k, hk, rfl, q, hlow⟩ := hrel
    have hr1 : r.rd wr := RdI.q hr q
    have hL1 := Lib.hid (hL.q q)
    obtain ⟨s, hs, hsr, hnum, hcell⟩ : ∃ s : Row, (k < n → s ∈ rs) ∧ s.rd wr ∧ Hid (k < n → (nums rs).getD k [] = s.xs) ∧ (k < n → wr.cell? ⟨g, o + k, none⟩ = some (.slice s.A s.xs.length s.c)) := by
      by_cases hlt : k < n
      · obtain ⟨b, off, e, _, s, _, hs, hnum, hsr, hcell⟩ := (hL.q q).at_ hlt
        cases e
        exact ⟨s, fun _ => hs, hsr, Lib.hid fun _ => hnum, fun _ => hcell⟩
      · exact ⟨⟨none, 0, []⟩, fun h => absurd h hlt, RdV.nil, Lib.hid fun h => absurd h hlt, fun h => absurd h hlt⟩
    have Q' := Lib.hid q
    clear hL q
    by_cases hcont : k < n ∧ ahead s.xs r.xs = true
    · obtain ⟨hlt, ha⟩ := hcont
      have hsl := hl s (hs hlt)
      have hcell := hcell hlt
      have hA := Lib.hid ha
      clear ha hs
      go_wp2_with fail
      refine (c_l17Ahead s.A r.A _ _ s.c r.c s.xs r.xs _ hsr hr1 hsl hrl).mono ?_
      rintro e w1 ⟨rfl, q1⟩
      rw [hA.out]
      go_wp2_with fail
      go_roundw
      case rel =>
        refine ⟨k + 1, by omega, by go_num, Q'.out.trans q1, Lib.hid (fun j hj => ?_)⟩
        by_cases h : j = k
        · subst h; rw [hnum.out hlt]; exact of_decide_eq_true hA.out
        · exact hlow.out j (by omega)
      case measure => simp [intOf]; omega
    · have hnot : Hid (k < n → ¬ LtH ((nums rs).getD k []) r.xs) := Lib.hid (fun h1 h2 => hcont ⟨h1, by rw [hnum.out h1] at h2; exact decide_eq_true h2⟩)
      have hat := Lib.hid (putL_at (l := nums rs) (x := r.xs) (k := k) (by simpa [hlen.out] using hk) hlow.out (by simpa [hlen.out] using hnot.out))
      by_cases heq : k < n ∧ s.xs = r.xs
      · obtain ⟨hlt, he⟩ := heq
        have fin : Hid (nums rs = putL (nums rs) r.xs) := Lib.hid (by rw [hat.out, if_pos ⟨by simpa [hlen.out] using hlt, by rw [hnum.out hlt, he]⟩])
        have hsl := hl s (hs hlt)
        have hcell := hcell hlt
        have ha : Hid (ahead s.xs r.xs = false) := Lib.hid (by cases h : ahead s.xs r.xs; rfl; exact absurd ⟨hlt, h⟩ hcont)
        have hz : Hid (cmpL s.xs r.xs = 0) := Lib.hid (cmpL_zero.2 he)
        clear hcont he hs hnot
        go_wp2_with fail
        refine (c_l17Ahead s.A r.A _ _ s.c r.c s.xs r.xs _ hsr hr1 hsl hrl).mono ?_
        rintro e w1 ⟨rfl, q1⟩
        rw [ha.out]
        have hsr := RdI.q hsr q1
        have hr1 := RdI.q hr1 q1
        have hcell : w1.cell? ⟨g, o + k, none⟩ = some (.slice s.A s.xs.length s.c) := (q1.cell _).trans hcell
        go_wp2_with fail
        refine (c_l3List s.A r.A _ _ s.c r.c s.xs r.xs _ hsr hr1 hsl hrl).mono ?_
        rintro e w2 ⟨rfl, q2⟩
        rw [hz.out]
        go_wp2_with fail
        go_ret
        have hl2 := hlen.out
        subst hl2
        exact ⟨g, o, c, rs, rfl, (hL1.out.q q1).q q2, hcap, fin.out, ((Q'.out.trans q1).trans q2).below, fun s hs => .inr hs⟩
      · have fin : Hid (putL (nums rs) r.xs = (nums rs).take k ++ r.xs :: (nums rs).drop k) := Lib.hid (by
          rw [hat.out, if_neg]
          rintro ⟨h1, h2⟩
          have h1' : k < n := by simpa [hlen.out] using h1
          exact heq ⟨h1', by rw [hnum.out h1'] at h2; exact h2⟩)
        by_cases hkc : k = c
        · obtain rfl : k = n := by omega
          subst hkc
          clear hs hcell hcont heq hnot hat
          have hsz1 : ∀ o, wr.heap.size ≤ (wr.alloc o).heap.size := hsz_1 wr
          have hsz2 : ∀ o p, wr.heap.size ≤ ((wr.alloc o).alloc p).heap.size := hsz_2 wr
          have hone : ∀ u ∈ rs.map Row.val, u.oneCell' = true := by intro u hu; obtain ⟨s, _, rfl⟩ := List.mem_map.1 hu; rfl
          go_wp2_with fail
          go_region_law (first
            | (refine step_app (wr.alloc (.cells #[] 22)).drew 23 22 (.slice none 0 0) 24 Try.underlying23 hI_row rfl rfl (.tmp 34) (.tmp 37) rfl wr.heap.size _ _ _ [] rfl (own_heap (own_lit0 wr _ _ (Nat.le_refl _)) rfl) _ _ _ ((rs.map Row.val).take k) rfl ?_ (rows_cells (RdL.below hL1.out (below_heap ((Below.refl _ _).alloc (Nat.le_refl _) _) ((Q.refl _).drew1))) 0 k) (fun u hu => hone u (List.mem_of_mem_take hu)) ?_ (by decide) (hsz1 _) ?_
               · rw [List.length_take, List.length_map, hlen.out]; omega
               · omega
               intro g1 c1 w1 o1 gb1 hg1
               have b1 : Below wr.heap.size wr w1 := Below.grown (below_heap ((Below.refl _ _).alloc (Nat.le_refl _) _) ((Q.refl _).drew1)) gb1 (hsz1 _) (fun j hj => by have := Option.some.inj hj; omega)
               skip
               have hB1 : wr.heap.size ≤ w1.heap.size := b1.size
               have o1' : w1.ownsRow wr.heap.size 22 1 (.slice (some ⟨g1, 0, none⟩) k c1) k ((rs.map Row.val).take k) := by rw [Nat.zero_add] at o1; exact o1
               clear o1 gb1 hg1)
            | (refine step_app ((wr.alloc (.cells #[] 22)).alloc (.cells #[r.val] 22)).drew 23 22 (.slice none 0 0) 24 Try.underlying23 hI_row rfl rfl (.tmp 34) (.tmp 37) rfl wr.heap.size _ _ _ [] rfl (own_heap ((own_lit0 wr _ _ (Nat.le_refl _)).alloc _) rfl) _ _ _ ((rs.map Row.val).take k) rfl ?_ (rows_cells (RdL.below hL1.out (below_heap (((Below.refl _ _).alloc (Nat.le_refl _) _).alloc (hsz1 _) _) ((Q.refl _).drew1))) 0 k) (fun u hu => hone u (List.mem_of_mem_take hu)) ?_ (by decide) (hsz2 _ _) ?_
               · rw [List.length_take, List.length_map, hlen.out]; omega
               · omega
               intro g1 c1 w1 o1 gb1 hg1
               have b1 : Below wr.heap.size wr w1 := Below.grown (below_heap (((Below.refl _ _).alloc (Nat.le_refl _) _).alloc (hsz1 _) _) ((Q.refl _).drew1)) gb1 (hsz2 _ _) (fun j hj => by have := Option.some.inj hj; omega)
               have k40 : w1.cell? ⟨wr.heap.size + 1, 0, none⟩ = some r.val := World.grownBy.cell gb1 (cell2 wr _ _ _) (fun e => by have := Option.some.inj e; simp at this)
               have hB1 : wr.heap.size ≤ w1.heap.size := b1.size
               have o1' : w1.ownsRow wr.heap.size 22 1 (.slice (some ⟨g1, 0, none⟩) k c1) k ((rs.map Row.val).take k) := by rw [Nat.zero_add] at o1; exact o1
               clear o1 gb1 hg1)
            | (refine step_app ((wr.alloc (.cells #[r.val] 22)).alloc (.cells #[] 22)).drew 23 22 (.slice none 0 0) 24 Try.underlying23 hI_row rfl rfl (.tmp 34) (.tmp 37) rfl wr.heap.size _ _ _ [] rfl (own_lit1 wr _ _ _ (Nat.le_refl _)) _ _ _ ((rs.map Row.val).take k) rfl ?_ (rows_cells (RdL.below hL1.out (below_heap (((Below.refl _ _).alloc (Nat.le_refl _) _).alloc (hsz1 _) _) ((Q.refl _).drew1))) 0 k) (fun u hu => hone u (List.mem_of_mem_take hu)) ?_ (by decide) (hsz2 _ _) ?_
               · rw [List.length_take, List.length_map, hlen.out]; omega
               · omega
               intro g1 c1 w1 o1 gb1 hg1
               have b1 : Below wr.heap.size wr w1 := Below.grown (below_heap (((Below.refl _ _).alloc (Nat.le_refl _) _).alloc (hsz1 _) _) ((Q.refl _).drew1)) gb1 (hsz2 _ _) (fun j hj => by have := Option.some.inj hj; omega)
               have k40 : w1.cell? ⟨wr.heap.size, 0, none⟩ = some r.val := World.grownBy.cell gb1 (cell1 wr _ _ _) (fun e => by have := Option.some.inj e; simp at this)
               have hB1 : wr.heap.size ≤ w1.heap.size := b1.size
               have o1' : w1.ownsRow wr.heap.size 22 1 (.slice (some ⟨g1, 0, none⟩) k c1) k ((rs.map Row.val).take k) := by rw [Nat.zero_add] at o1; exact o1
               clear o1 gb1 hg1)
            | (refine step_app w1 23 22 (.slice none 0 0) 24 Try.underlying23 hI_row rfl rfl (.tmp 38) (.tmp 40) rfl wr.heap.size _ _ _ ((rs.map Row.val).take k) rfl (o1') _ _ _ [r.val] rfl rfl (cell_single k40) (fun u hu => by obtain rfl := List.mem_singleton.1 hu; rfl) ?_ (by decide) (hB1) ?_
               · omega
               intro g2 c2 w2 o2 gb2 hg2
               have b2 : Below wr.heap.size wr w2 := Below.grown (b1) gb2 (hB1) (fun j hj => by have := Option.some.inj hj; have := own_ge o1'; omega)
               have hB2 : wr.heap.size ≤ w2.heap.size := b2.size
               clear o1' gb2 hg2)
            | (refine step_app (w1.alloc (.cells #[r.val] 22)) 23 22 (.slice none 0 0) 24 Try.underlying23 hI_row rfl rfl (.tmp 38) (.tmp 40) rfl wr.heap.size _ _ _ ((rs.map Row.val).take k) rfl (o1'.alloc _) _ _ _ [r.val] rfl rfl (cell_one_new w1 _ _) (fun u hu => by obtain rfl := List.mem_singleton.1 hu; rfl) ?_ (by decide) (Nat.le_trans hB1 (by simp)) ?_
               · omega
               intro g2 c2 w2 o2 gb2 hg2
               have b2 : Below wr.heap.size wr w2 := Below.grown (b1.alloc hB1 _) gb2 (Nat.le_trans hB1 (by simp)) (fun j hj => by have := Option.some.inj hj; have := own_ge o1'; omega)
               have hB2 : wr.heap.size ≤ w2.heap.size := b2.size
               clear o1' gb2 hg2)
            | (refine step_app w2 23 22 (.slice none 0 0) 24 Try.underlying23 hI_row rfl rfl (.tmp 41) (.tmp 44) rfl wr.heap.size _ _ _ ((rs.map Row.val).take k ++ [r.val]) rfl o2 _ _ _ [] rfl rfl ?_ (fun u hu => by simp at hu) ?_ (by decide) hB2 ?_
               · exact (fun j u hu => by simp at hu)
               · omega
               intro g3 c3 w3 o3 gb3 hg3
               have b3 : Below wr.heap.size wr w3 := Below.grown b2 gb3 hB2 (fun j hj => by have := Option.some.inj hj; have := own_ge o2; omega)
               clear o2 gb3 hg3))
          all_goals
            rw [List.append_nil] at o3
            have o4 : w3.ownsRow wr.heap.size 22 1 (.slice (some ⟨g3, 0, none⟩) (k + 1) c3) (k + 1) ((rs.map Row.val).take k ++ [r.val] ++ (rs.map Row.val).drop k) := by
              rw [List.drop_of_length_le (by rw [List.length_map, hlen.out]; exact Nat.le_refl _), List.append_nil]; exact o3
            have O4 := Lib.hid o4
            clear o3 o4
            go_wp2_with fail
            go_ret
            exact put_end Q'.out b3 hL1.out hr1 rfl O4.out fin.out
        · have hkc' : k < c := by omega
          have hkc2 : (k : Int) < c := by omega
          have hkc3 : k ≤ c := by omega
          have hkc4 : ¬ c = k := by omega
          rcases Nat.lt_or_ge k n with hkn | hkn
          · have hsl := hl s (hs hkn)
            have hcell := hcell hkn
            have ha : Hid (ahead s.xs r.xs = false) := Lib.hid (by cases h : ahead s.xs r.xs; rfl; exact absurd ⟨hkn, h⟩ hcont)
            obtain ⟨z, hz⟩ : ∃ z, Hid (cmpL s.xs r.xs = z) := ⟨_, Lib.hid rfl⟩
            have hz0 : ¬ z = 0 := fun h => heq ⟨hkn, cmpL_zero.1 (hz.out.trans h)⟩
            have hz1 : (z == 0) = false := by simpa using hz0
            clear hcont hs hnot heq hat
            go_wp2_with fail
            refine (c_l17Ahead s.A r.A _ _ s.c r.c s.xs r.xs _ hsr hr1 hsl hrl).mono ?_
            rintro e w1 ⟨rfl, q1⟩
            rw [ha.out]
            have hsr := RdI.q hsr q1
            have hr1 := RdI.q hr1 q1
            have hcell : w1.cell? ⟨g, o + k, none⟩ = some (.slice s.A s.xs.length s.c) := (q1.cell _).trans hcell
            go_wp2_with fail
            refine (c_l3List s.A r.A _ _ s.c r.c s.xs r.xs _ hsr hr1 hsl hrl).mono ?_
            rintro e wr ⟨rfl, q2⟩
            rw [hz.out]
            have hr1 := RdI.q hr1 q2
            have hL1 := Lib.hid ((hL1.out.q q1).q q2)
            have Q' := Lib.hid ((Q'.out.trans q1).trans q2)
            have hsz1 : ∀ o, wr.heap.size ≤ (wr.alloc o).heap.size := hsz_1 wr
            have hsz2 : ∀ o p, wr.heap.size ≤ ((wr.alloc o).alloc p).heap.size := hsz_2 wr
            have hone : ∀ u ∈ rs.map Row.val, u.oneCell' = true := by intro u hu; obtain ⟨s, _, rfl⟩ := List.mem_map.1 hu; rfl
            clear q1 q2 hcell hsr
            go_wp2_with fail
            go_region_law (first
              | (refine step_app (wr.alloc (.cells #[] 22)).drew 23 22 (.slice none 0 0) 24 Try.underlying23 hI_row rfl rfl (.tmp 34) (.tmp 37) rfl wr.heap.size _ _ _ [] rfl (own_heap (own_lit0 wr _ _ (Nat.le_refl _)) rfl) _ _ _ ((rs.map Row.val).take k) rfl ?_ (rows_cells (RdL.below hL1.out (below_heap ((Below.refl _ _).alloc (Nat.le_refl _) _) ((Q.refl _).drew1))) 0 k) (fun u hu => hone u (List.mem_of_mem_take hu)) ?_ (by decide) (hsz1 _) ?_
                 · rw [List.length_take, List.length_map, hlen.out]; omega
                 · omega
                 intro g1 c1 w1 o1 gb1 hg1
                 have b1 : Below wr.heap.size wr w1 := Below.grown (below_heap ((Below.refl _ _).alloc (Nat.le_refl _) _) ((Q.refl _).drew1)) gb1 (hsz1 _) (fun j hj => by have := Option.some.inj hj; omega)
                 skip
                 have hB1 : wr.heap.size ≤ w1.heap.size := b1.size
                 have o1' : w1.ownsRow wr.heap.size 22 1 (.slice (some ⟨g1, 0, none⟩) k c1) k ((rs.map Row.val).take k) := by rw [Nat.zero_add] at o1; exact o1
                 clear o1 gb1 hg1)
              | (refine step_app ((wr.alloc (.cells #[] 22)).alloc (.cells #[r.val] 22)).drew 23 22 (.slice none 0 0) 24 Try.underlying23 hI_row rfl rfl (.tmp 34) (.tmp 37) rfl wr.heap.size _ _ _ [] rfl (own_heap ((own_lit0 wr _ _ (Nat.le_refl _)).alloc _) rfl) _ _ _ ((rs.map Row.val).take k) rfl ?_ (rows_cells (RdL.below hL1.out (below_heap (((Below.refl _ _).alloc (Nat.le_refl _) _).alloc (hsz1 _) _) ((Q.refl _).drew1))) 0 k) (fun u hu => hone u (List.mem_of_mem_take hu)) ?_ (by decide) (hsz2 _ _) ?_
                 · rw [List.length_take, List.length_map, hlen.out]; omega
                 · omega
                 intro g1 c1 w1 o1 gb1 hg1
                 have b1 : Below wr.heap.size wr w1 := Below.grown (below_heap (((Below.refl _ _).alloc (Nat.le_refl _) _).alloc (hsz1 _) _) ((Q.refl _).drew1)) gb1 (hsz2 _ _) (fun j hj => by have := Option.some.inj hj; omega)
                 have k40 : w1.cell? ⟨wr.heap.size + 1, 0, none⟩ = some r.val := World.grownBy.cell gb1 (cell2 wr _ _ _) (fun e => by have := Option.some.inj e; simp at this)
                 have hB1 : wr.heap.size ≤ w1.heap.size := b1.size
                 have o1' : w1.ownsRow wr.heap.size 22 1 (.slice (some ⟨g1, 0, none⟩) k c1) k ((rs.map Row.val).take k) := by rw [Nat.zero_add] at o1; exact o1
                 clear o1 gb1 hg1)
              | (refine step_app ((wr.alloc (.cells #[r.val] 22)).alloc (.cells #[] 22)).drew 23 22 (.slice none 0 0) 24 Try.underlying23 hI_row rfl rfl (.tmp 34) (.tmp 37) rfl wr.heap.size _ _ _ [] rfl (own_lit1 wr _ _ _ (Nat.le_refl _)) _ _ _ ((rs.map Row.val).take k) rfl ?_ (rows_cells (RdL.below hL1.out (below_heap (((Below.refl _ _).alloc (Nat.le_refl _) _).alloc (hsz1 _) _) ((Q.refl _).drew1))) 0 k) (fun u hu => hone u (List.mem_of_mem_take hu)) ?_ (by decide) (hsz2 _ _) ?_
                 · rw [List.length_take, List.length_map, hlen.out]; omega
                 · omega
                 intro g1 c1 w1 o1 gb1 hg1
                 have b1 : Below wr.heap.size wr w1 := Below.grown (below_heap (((Below.refl _ _).alloc (Nat.le_refl _) _).alloc (hsz1 _) _) ((Q.refl _).drew1)) gb1 (hsz2 _ _) (fun j hj => by have := Option.some.inj hj; omega)
                 have k40 : w1.cell? ⟨wr.heap.size, 0, none⟩ = some r.val := World.grownBy.cell gb1 (cell1 wr _ _ _) (fun e => by have := Option.some.inj e; simp at this)
                 have hB1 : wr.heap.size ≤ w1.heap.size := b1.size
                 have o1' : w1.ownsRow wr.heap.size 22 1 (.slice (some ⟨g1, 0, none⟩) k c1) k ((rs.map Row.val).take k) := by rw [Nat.zero_add] at o1; exact o1
                 clear o1 gb1 hg1)
              | (refine step_app w1 23 22 (.slice none 0 0) 24 Try.underlying23 hI_row rfl rfl (.tmp 38) (.tmp 40) rfl wr.heap.size _ _ _ ((rs.map Row.val).take k) rfl (o1') _ _ _ [r.val] rfl rfl (cell_single k40) (fun u hu => by obtain rfl := List.mem_singleton.1 hu; rfl) ?_ (by decide) (hB1) ?_
                 · omega
                 intro g2 c2 w2 o2 gb2 hg2
                 have b2 : Below wr.heap.size wr w2 := Below.grown (b1) gb2 (hB1) (fun j hj => by have := Option.some.inj hj; have := own_ge o1'; omega)
                 have hB2 : wr.heap.size ≤ w2.heap.size := b2.size
                 clear o1' gb2 hg2)
              | (refine step_app (w1.alloc (.cells #[r.val] 22)) 23 22 (.slice none 0 0) 24 Try.underlying23 hI_row rfl rfl (.tmp 38) (.tmp 40) rfl wr.heap.size _ _ _ ((rs.map Row.val).take k) rfl (o1'.alloc _) _ _ _ [r.val] rfl rfl (cell_one_new w1 _ _) (fun u hu => by obtain rfl := List.mem_singleton.1 hu; rfl) ?_ (by decide) (Nat.le_trans hB1 (by simp)) ?_
                 · omega
                 intro g2 c2 w2 o2 gb2 hg2
                 have b2 : Below wr.heap.size wr w2 := Below.grown (b1.alloc hB1 _) gb2 (Nat.le_trans hB1 (by simp)) (fun j hj => by have := Option.some.inj hj; have := own_ge o1'; omega)
                 have hB2 : wr.heap.size ≤ w2.heap.size := b2.size
                 clear o1' gb2 hg2)
              | (refine step_app w2 23 22 (.slice none 0 0) 24 Try.underlying23 hI_row rfl rfl (.tmp 41) (.tmp 44) rfl wr.heap.size _ _ _ ((rs.map Row.val).take k ++ [r.val]) rfl o2 _ _ _ ((rs.map Row.val).drop k) rfl (by simp only [List.length_drop, List.length_map, hlen.out]; try omega) ?_ (fun u hu => hone u (List.mem_of_mem_drop hu)) ?_ (by decide) hB2 ?_
                 · exact (by have := rows_cells (RdL.below hL1.out b2) k (n - k); rwa [List.take_of_length_le (by rw [List.length_drop, List.length_map, hlen.out]; omega)] at this)
                 · omega
                 intro g3 c3 w3 o3 gb3 hg3
                 have b3 : Below wr.heap.size wr w3 := Below.grown b2 gb3 hB2 (fun j hj => by have := Option.some.inj hj; have := own_ge o2; omega)
                 clear o2 gb3 hg3))
            all_goals
              have O4 := Lib.hid o3
              clear o3
              go_wp2_with fail
              go_ret
              exact put_end Q'.out b3 hL1.out hr1 (by omega) O4.out fin.out
          · obtain rfl : k = n := by omega
            have hsz1 : ∀ o, wr.heap.size ≤ (wr.alloc o).heap.size := hsz_1 wr
            have hsz2 : ∀ o p, wr.heap.size ≤ ((wr.alloc o).alloc p).heap.size := hsz_2 wr
            have hone : ∀ u ∈ rs.map Row.val, u.oneCell' = true := by intro u hu; obtain ⟨s, _, rfl⟩ := List.mem_map.1 hu; rfl
            clear hcont hs hnot heq hat hcell
            go_wp2_with fail
            go_region_law (first
              | (refine step_app (wr.alloc (.cells #[] 22)).drew 23 22 (.slice none 0 0) 24 Try.underlying23 hI_row rfl rfl (.tmp 34) (.tmp 37) rfl wr.heap.size _ _ _ [] rfl (own_heap (own_lit0 wr _ _ (Nat.le_refl _)) rfl) _ _ _ ((rs.map Row.val).take k) rfl ?_ (rows_cells (RdL.below hL1.out (below_heap ((Below.refl _ _).alloc (Nat.le_refl _) _) ((Q.refl _).drew1))) 0 k) (fun u hu => hone u (List.mem_of_mem_take hu)) ?_ (by decide) (hsz1 _) ?_
                 · rw [List.length_take, List.length_map, hlen.out]; omega
                 · omega
                 intro g1 c1 w1 o1 gb1 hg1
                 have b1 : Below wr.heap.size wr w1 := Below.grown (below_heap ((Below.refl _ _).alloc (Nat.le_refl _) _) ((Q.refl _).drew1)) gb1 (hsz1 _) (fun j hj => by have := Option.some.inj hj; omega)
                 skip
                 have hB1 : wr.heap.size ≤ w1.heap.size := b1.size
                 have o1' : w1.ownsRow wr.heap.size 22 1 (.slice (some ⟨g1, 0, none⟩) k c1) k ((rs.map Row.val).take k) := by rw [Nat.zero_add] at o1; exact o1
                 clear o1 gb1 hg1)
              | (refine step_app ((wr.alloc (.cells #[] 22)).alloc (.cells #[r.val] 22)).drew 23 22 (.slice none 0 0) 24 Try.underlying23 hI_row rfl rfl (.tmp 34) (.tmp 37) rfl wr.heap.size _ _ _ [] rfl (own_heap ((own_lit0 wr _ _ (Nat.le_refl _)).alloc _) rfl) _ _ _ ((rs.map Row.val).take k) rfl ?_ (rows_cells (RdL.below hL1.out (below_heap (((Below.refl _ _).alloc (Nat.le_refl _) _).alloc (hsz1 _) _) ((Q.refl _).drew1))) 0 k) (fun u hu => hone u (List.mem_of_mem_take hu)) ?_ (by decide) (hsz2 _ _) ?_
                 · rw [List.length_take, List.length_map, hlen.out]; omega
                 · omega
                 intro g1 c1 w1 o1 gb1 hg1
                 have b1 : Below wr.heap.size wr w1 := Below.grown (below_heap (((Below.refl _ _).alloc (Nat.le_refl _) _).alloc (hsz1 _) _) ((Q.refl _).drew1)) gb1 (hsz2 _ _) (fun j hj => by have := Option.some.inj hj; omega)
                 have k40 : w1.cell? ⟨wr.heap.size + 1, 0, none⟩ = some r.val := World.grownBy.cell gb1 (cell2 wr _ _ _) (fun e => by have := Option.some.inj e; simp at this)
                 have hB1 : wr.heap.size ≤ w1.heap.size := b1.size
                 have o1' : w1.ownsRow wr.heap.size 22 1 (.slice (some ⟨g1, 0, none⟩) k c1) k ((rs.map Row.val).take k) := by rw [Nat.zero_add] at o1; exact o1
                 clear o1 gb1 hg1)
              | (refine step_app ((wr.alloc (.cells #[r.val] 22)).alloc (.cells #[] 22)).drew 23 22 (.slice none 0 0) 24 Try.underlying23 hI_row rfl rfl (.tmp 34) (.tmp 37) rfl wr.heap.size _ _ _ [] rfl (own_lit1 wr _ _ _ (Nat.le_refl _)) _ _ _ ((rs.map Row.val).take k) rfl ?_ (rows_cells (RdL.below hL1.out (below_heap (((Below.refl _ _).alloc (Nat.le_refl _) _).alloc (hsz1 _) _) ((Q.refl _).drew1))) 0 k) (fun u hu => hone u (List.mem_of_mem_take hu)) ?_ (by decide) (hsz2 _ _) ?_
                 · rw [List.length_take, List.length_map, hlen.out]; omega
                 · omega
                 intro g1 c1 w1 o1 gb1 hg1
                 have b1 : Below wr.heap.size wr w1 := Below.grown (below_heap (((Below.refl _ _).alloc (Nat.le_refl _) _).alloc (hsz1 _) _) ((Q.refl _).drew1)) gb1 (hsz2 _ _) (fun j hj => by have := Option.some.inj hj; omega)
                 have k40 : w1.cell? ⟨wr.heap.size, 0, none⟩ = some r.val := World.grownBy.cell gb1 (cell1 wr _ _ _) (fun e => by have := Option.some.inj e; simp at this)
                 have hB1 : wr.heap.size ≤ w1.heap.size := b1.size
                 have o1' : w1.ownsRow wr.heap.size 22 1 (.slice (some ⟨g1, 0, none⟩) k c1) k ((rs.map Row.val).take k) := by rw [Nat.zero_add] at o1; exact o1
                 clear o1 gb1 hg1)
              | (refine step_app w1 23 22 (.slice none 0 0) 24 Try.underlying23 hI_row rfl rfl (.tmp 38) (.tmp 40) rfl wr.heap.size _ _ _ ((rs.map Row.val).take k) rfl (o1') _ _ _ [r.val] rfl rfl (cell_single k40) (fun u hu => by obtain rfl := List.mem_singleton.1 hu; rfl) ?_ (by decide) (hB1) ?_
                 · omega
                 intro g2 c2 w2 o2 gb2 hg2
                 have b2 : Below wr.heap.size wr w2 := Below.grown (b1) gb2 (hB1) (fun j hj => by have := Option.some.inj hj; have := own_ge o1'; omega)
                 have hB2 : wr.heap.size ≤ w2.heap.size := b2.size
                 clear o1' gb2 hg2)
              | (refine step_app (w1.alloc (.cells #[r.val] 22)) 23 22 (.slice none 0 0) 24 Try.underlying23 hI_row rfl rfl (.tmp 38) (.tmp 40) rfl wr.heap.size _ _ _ ((rs.map Row.val).take k) rfl (o1'.alloc _) _ _ _ [r.val] rfl rfl (cell_one_new w1 _ _) (fun u hu => by obtain rfl := List.mem_singleton.1 hu; rfl) ?_ (by decide) (Nat.le_trans hB1 (by simp)) ?_
                 · omega
                 intro g2 c2 w2 o2 gb2 hg2
                 have b2 : Below wr.heap.size wr w2 := Below.grown (b1.alloc hB1 _) gb2 (Nat.le_trans hB1 (by simp)) (fun j hj => by have := Option.some.inj hj; have := own_ge o1'; omega)
                 have hB2 : wr.heap.size ≤ w2.heap.size := b2.size
                 clear o1' gb2 hg2)
              | (refine step_app w2 23 22 (.slice none 0 0) 24 Try.underlying23 hI_row rfl rfl (.tmp 41) (.tmp 44) rfl wr.heap.size _ _ _ ((rs.map Row.val).take k ++ [r.val]) rfl o2 _ _ _ ((rs.map Row.val).drop k) rfl (by simp only [List.length_drop, List.length_map, hlen.out]; try omega) ?_ (fun u hu => hone u (List.mem_of_mem_drop hu)) ?_ (by decide) hB2 ?_
                 · exact (by have := rows_cells (RdL.below hL1.out b2) k (k - k); rwa [List.take_of_length_le (by rw [List.length_drop, List.length_map, hlen.out]; omega)] at this)
                 · omega
                 intro g3 c3 w3 o3 gb3 hg3
                 have b3 : Below wr.heap.size wr w3 := Below.grown b2 gb3 hB2 (fun j hj => by have := Option.some.inj hj; have := own_ge o2; omega)
                 clear o2 gb3 hg3))
            all_goals
              have O4 := Lib.hid o3
              clear o3
              go_wp2_with fail
              go_ret
              exact put_end Q'.out b3 hL1.out hr1 (by omega) O4.out fin.out
end Go.Proofs.Ytoeacocijcammaa
