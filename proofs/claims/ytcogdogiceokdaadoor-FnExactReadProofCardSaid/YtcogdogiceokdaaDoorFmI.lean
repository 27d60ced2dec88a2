/- Claims and proofs are compared (printed by gen_claim.py), marked. -/
import Derived.Test.YtcogdogiceokdaaDoorFmH
namespace Go.Proofs.YtcogdogiceokdaaDoor
open Go.RowKit

set_option maxHeartbeats 1600000 in
theorem c_eqClaim (i1 i2 : Int) (A B A' B' : Option Addr) (c d c' d' : Nat) (xs ys : List Int) (w : World) (r1 : RdI w A xs.length xs) (r2 : RdI w B ys.length ys) (r3 : RdI w A' xs.length xs) (r4 : RdI w B' ys.length ys) (hx : xs.length ≤ 1048576) (hy : ys.length ≤ 1048576) :
    Calls Tryd.prog 40 #[.agg #[.int .i64 i1, .int .i64 i2, .slice A xs.length c, .slice B ys.length d], .agg #[.int .i64 i1, .int .i64 i2, .slice A' xs.length c', .slice B' ys.length d']] w fun e w' => e = .returned (.bool true) ∧ Below w.heap.size w w' := by
  have H1 := Lib.hid (fun W (hb : Below w.heap.size w W) => c_eqIntS_same A A' _ c c' xs W (r1.below hb) (r3.below hb) hx)
  have H2 := Lib.hid (fun W (hb : Below w.heap.size w W) => c_eqIntS_same B B' _ d d' ys W (r2.below hb) (r4.below hb) hy)
  clear r1 r2 r3 r4
  go_enter Tryd.func40, Tryd.ntmps40
  go_wp2_with fail
  refine (H1.out _ (by go_grown)).mono ?_
  rintro e w1 ⟨rfl, q1⟩
  have b1 := q1.below
  have k0 : w1.cell? ⟨w.heap.size, 3, none⟩ = some (.slice B ys.length d) := bkeep b1 _ _ (by simp [go_sem])
  have k1 : w1.cell? ⟨w.heap.size + 1, 3, none⟩ = some (.slice B' ys.length d') := bkeep b1 _ _ (by simp [go_sem])
  have B1 : Hid (Below w.heap.size w w1) := Lib.hid (Below.next (by go_grown) b1)
  clear q1 b1
  go_wp2_with fail
  refine (H2.out _ B1.out).mono ?_
  rintro e w2 ⟨rfl, q2⟩
  have B2 := Lib.hid (Below.next B1.out q2.below)
  clear q2
  go_wp2_with fail
  go_ret
  exact ⟨rfl, B2.out⟩
theorem dat_claim {es : List El} {k : Nat} {i1 i2 : Int} {A1 A2 : Option Addr} {c1 c2 : Nat} {xs ys : List Int} (h : es[k]? = some ⟨[i1, i2], [⟨A1, c1, xs⟩, ⟨A2, c2, ys⟩]⟩) : (dats es)[k]? = some ([i1, i2], [xs, ys]) := by
  unfold dats
  rw [List.getElem?_map, h]
  rfl
set_option maxRecDepth 100000 in
set_option maxHeartbeats 3200000 in
theorem c_eqClaimS (A B : Option Addr) (c d : Nat) (es fs : List El) (n : Nat) (w : World) (ra : RdE 2 2 w A n es) (rb : RdE 2 2 w B n fs) (he : dats es = dats fs) (hn : n ≤ 1048576) (hl : ∀ e ∈ es, ∀ r ∈ e.rs, r.xs.length ≤ 1048576) :
    Calls Tryd.prog 22 #[.slice A n c, .slice B n d] w fun e w' => e = .returned (.bool true) ∧ Below w.heap.size w w' := by
  have RA := Lib.hid ra
  have RB := Lib.hid rb
  have HE := Lib.hid he
  have HL := Lib.hid hl
  clear ra rb he hl
  go_enter Tryd.func22, Tryd.ntmps22
  go_wp2_with fail
  go_loopg [5] n (fun mm i wx => ∃ (k : Nat) (wz : World), wz = wx ∧ k ≤ n ∧ mm = n - k ∧ i = .int .i64 k ∧ Hid (Below w.heap.size w wz))
  case atStart => exact ⟨0, _, rfl, Nat.zero_le _, rfl, rfl, Lib.hid (Below.refl _ _)⟩
  case round =>
    obtain ⟨k, wz, rfl, hk, rfl, rfl, hb⟩ := hrel
    by_cases hlt : k < n
    · have hltI : (k : Int) < (n : Int) := by omega
      have h0I : (0 : Int) ≤ (k : Int) := by omega
      obtain ⟨b, off, i1, i2, A1, c1, xs, A2, c2, ys, rfl, _, he1, r1, r2, hi0, hi1, hc0, hc1⟩ := (RA.out.below hb.out).claim hlt
      obtain ⟨b', off', i3, i4, A3, c3, xs', A4, c4, ys', rfl, _, he2, r3, r4, hi2, hi3, hc2, hc3⟩ := (RB.out.below hb.out).claim hlt
      have hm := HL.out _ (List.mem_of_getElem? he1)
      have hx1 : xs.length ≤ 1048576 := hm ⟨A1, c1, xs⟩ (by simp)
      have hx2 : ys.length ≤ 1048576 := hm ⟨A2, c2, ys⟩ (by simp)
      have hdd : (i3 = i1 ∧ i4 = i2) ∧ xs' = xs ∧ ys' = ys := by
        have h1 := List.getElem?_map (f := El.dat) (l := es) (i := k)
        have h2 := List.getElem?_map (f := El.dat) (l := fs) (i := k)
        rw [he1] at h1
        rw [he2] at h2
        have h3 := HE.out
        unfold dats at h3
        rw [h3, h2] at h1
        simp [El.dat] at h1
        exact h1
      obtain ⟨⟨rfl, rfl⟩, rfl, rfl⟩ := hdd
      have HN := Lib.hid (fun W (hbb : Below wz.heap.size wz W) => c_eqClaim i3 i4 A1 A2 A3 A4 c1 c2 c3 c4 xs' ys' W (r1.below hbb) (r2.below hbb) (r3.below hbb) (r4.below hbb) hx1 hx2)
      clear he1 he2 hm r1 r2 r3 r4 hx1 hx2
      go_upto_region 6 with fail
      go_cut [26] (fun v wx => ∃ wy, wy = wx ∧ v = .bool false ∧ Hid (Below w.heap.size w wy))
      case first =>
        go_region_held3 (fun w' => w'.cell? ⟨b, off + k * 4, none⟩ = some (.int .i64 i3) ∧ w'.cell? ⟨b, off + k * 4 + 1, none⟩ = some (.int .i64 i4) ∧ w'.cell? ⟨b, off + k * 4 + 2, none⟩ = some (.slice A1 xs'.length c1) ∧ w'.cell? ⟨b, off + k * 4 + 3, none⟩ = some (.slice A2 ys'.length c2) ∧ w'.cell? ⟨b', off' + k * 4, none⟩ = some (.int .i64 i3) ∧ w'.cell? ⟨b', off' + k * 4 + 1, none⟩ = some (.int .i64 i4) ∧ w'.cell? ⟨b', off' + k * 4 + 2, none⟩ = some (.slice A3 xs'.length c3) ∧ w'.cell? ⟨b', off' + k * 4 + 3, none⟩ = some (.slice A4 ys'.length c4) ∧ Below wz.heap.size wz w')
          (first | (refine ⟨?_, ?_, ?_, ?_, ?_, ?_, ?_, ?_, ?_⟩ <;> first | go_keep | exact (Below.refl _ _).drew | exact Below.next (And.right (And.right (And.right (And.right (And.right (And.right (And.right (And.right (by assumption))))))))) (by assumption)))
          (first | (go_at_call 40; refine (HN.out _ (And.right (And.right (And.right (And.right (And.right (And.right (And.right (And.right (by assumption)))))))))).mono ?_; rintro e w' ⟨rfl, b⟩; have hk := bkeep b))
        all_goals
          go_wp2_with fail
          go_meet
          case rel => exact ⟨_, rfl, rfl, Lib.hid (Below.next hb.out (And.right (And.right (And.right (And.right (And.right (And.right (And.right (And.right (by assumption))))))))))⟩
      case rest =>
        obtain ⟨wy, rfl, rfl, hb2⟩ := hcut
        go_wp2_with fail
        go_roundg (n - (k + 1))
        case measure => omega
        case rel => exact ⟨k + 1, _, rfl, by omega, rfl, by go_num, hb2⟩
    · obtain rfl : k = n := by omega
      go_wp2_with fail
      go_ret
      exact ⟨rfl, hb.out⟩
set_option maxHeartbeats 800000 in
theorem c_eqProof (A B : Option Addr) (c d : Nat) (es fs : List El) (n : Nat) (w : World) (ra : RdE 2 2 w A n es) (rb : RdE 2 2 w B n fs) (he : dats es = dats fs) (hn : n ≤ 1048576) (hl : ∀ e ∈ es, ∀ r ∈ e.rs, r.xs.length ≤ 1048576) :
    Calls Tryd.prog 9 #[.agg #[.slice A n c], .agg #[.slice B n d]] w fun e w' => e = .returned (.bool true) ∧ Below w.heap.size w w' := by
  have HN := Lib.hid (fun W (hb : Below w.heap.size w W) => c_eqClaimS A B c d es fs n W (ra.below hb) (rb.below hb) he hn hl)
  clear ra rb he hl
  go_enter Tryd.func9, Tryd.ntmps9
  go_wp2_with fail
  refine (HN.out _ (by go_grown)).mono ?_
  rintro e w1 ⟨rfl, b1⟩
  have B1 : Hid (Below w.heap.size w w1) := Lib.hid (Below.next (by go_grown) b1)
  clear b1 HN
  go_wp2_with fail
  go_ret
  exact ⟨rfl, B1.out⟩
/-- Only what lies in the blocks from lo to below hi has been written anew. -/
structure Wr (lo hi : Nat) (w w' : World) : Prop where
  os : w'.os = w.os
  tape : w'.tape = w.tape
  output : w'.output = w.output
  size : w'.heap.size = w.heap.size
  kept : ∀ a u, w.cell? a = some u → ∃ v, w'.cell? a = some v
  fz : ∀ a, w'.frozen? a = w.frozen? a
  block : ∀ b, b < lo ∨ hi ≤ b → w'.heap[b]? = w.heap[b]?
theorem Wr.refl (lo hi : Nat) (w : World) : Wr lo hi w w := ⟨rfl, rfl, rfl, rfl, fun _ u h => ⟨u, h⟩, fun _ => rfl, fun _ _ => rfl⟩
theorem Wr.trans {lo hi : Nat} {a b c : World} (h : Wr lo hi a b) (k : Wr lo hi b c) : Wr lo hi a c :=
  ⟨k.os.trans h.os, k.tape.trans h.tape, k.output.trans h.output, k.size.trans h.size, fun x u hx => by obtain ⟨v, hv⟩ := h.kept x u hx; exact k.kept x v hv, fun x => (k.fz x).trans (h.fz x), fun x hx => (k.block x hx).trans (h.block x hx)⟩
theorem Wr.wide {lo lo' hi hi' : Nat} {a b : World} (h : Wr lo hi a b) (h1 : lo' ≤ lo) (h2 : hi ≤ hi') : Wr lo' hi' a b :=
  ⟨h.os, h.tape, h.output, h.size, h.kept, h.fz, fun x hx => h.block x (by omega)⟩
theorem Wr.set {lo hi : Nat} {w : World} {a : Addr} (h1 : lo ≤ a.block) (h2 : a.block < hi) (x : Value) : Wr lo hi w (w.setCell a x) := by
  refine ⟨rfl, rfl, rfl, by simp, fun p u hp => ?_, fun p => World.frozen?_setCell _ _ _ _, fun b hb => Go.Deep.blk_setCell_other _ _ _ _ (by omega)⟩
  by_cases e : p = a
  · subst e; exact ⟨x, World.cell?_setCell_same _ _ _ hp⟩
  · exact ⟨u, (World.cell?_setCell_other _ _ _ _ (by simpa using fun h => e h.symm)).trans hp⟩
theorem Wr.cell {lo hi : Nat} {w w' : World} (h : Wr lo hi w w') {p : Addr} (hp : p.block < lo ∨ hi ≤ p.block) : w'.cell? p = w.cell? p := World.cell?_of_block (h.block p.block hp)
theorem Wr.below {lo hi : Nat} {w0 w w' : World} (h : Wr lo hi w w') (hb : Below w0.heap.size w0 w) (hl : w0.heap.size ≤ lo) : Below w0.heap.size w0 w' :=
  ⟨h.os.trans hb.os, h.tape.trans hb.tape, h.output.trans hb.output, by rw [h.size]; exact hb.size, fun b hlt => (h.block b (.inl (by omega))).trans (hb.block b hlt)⟩
theorem Wr.rd {lo hi : Nat} {w w' : World} (h : Wr lo hi w w') {A : Option Addr} {n : Nat} {us : List Value} (r : RdV w A n us) (hA : 0 < n → ∀ b off, A = some ⟨b, off, none⟩ → b < lo ∨ hi ≤ b) : RdV w' A n us := by
  refine ⟨r.1, fun hn => ?_⟩
  obtain ⟨b, off, e, hc⟩ := r.2 hn
  exact ⟨b, off, e, fun i u hu => (h.cell (p := ⟨b, off + i, none⟩) (hA hn b off e)).trans (hc i u hu)⟩
theorem Wr.own {lo hi : Nat} {w w' : World} (h : Wr lo hi w w') {base : Nat} {E : TypeId} {v : Value} {n : Nat} {us : List Value} (o : w.ownsRow base E 1 v n us) (hb : hi ≤ base) : w'.ownsRow base E 1 v n us := by
  obtain ⟨h0, h1⟩ := o
  refine ⟨h0, ?_⟩
  rcases h1 with h1 | ⟨g, cap, cur, e, hg, hh, r⟩
  · exact .inl h1
  · exact .inr ⟨g, cap, cur, e, hg, (h.block g (.inr (by omega))).trans hh, r⟩
/-- The cells of a slice are there, in blocks from lo to below hi, and may be written. -/
def There (lo hi : Nat) (w : World) (A : Option Addr) (n : Nat) : Prop := 0 < n → ∃ b, A = some ⟨b, 0, none⟩ ∧ lo ≤ b ∧ b < hi ∧ ∀ i, i < n → (∃ u, w.cell? ⟨b, i, none⟩ = some u) ∧ w.frozen? ⟨b, i, none⟩ = false
theorem There.wr {lo hi lo' hi' : Nat} {w w' : World} {A : Option Addr} {n : Nat} (h : There lo hi w A n) (k : Wr lo' hi' w w') : There lo hi w' A n := fun hn => by
  obtain ⟨b, e, h1, h2, h3⟩ := h hn
  exact ⟨b, e, h1, h2, fun i hi => ⟨by obtain ⟨u, hu⟩ := (h3 i hi).1; exact k.kept _ u hu, (k.fz _).trans (h3 i hi).2⟩⟩
theorem There.below {lo hi : Nat} {w w' : World} {A : Option Addr} {n : Nat} (h : There lo hi w A n) (hb : Below w.heap.size w w') : There lo hi w' A n := fun hn => by
  obtain ⟨b, e, h1, h2, h3⟩ := h hn
  refine ⟨b, e, h1, h2, fun i hi => ?_⟩
  obtain ⟨⟨u, hu⟩, hf⟩ := h3 i hi
  have hlt := cell_lt hu
  exact ⟨⟨u, (hb.cell hlt).trans hu⟩, (hb.frozen hlt).trans hf⟩
theorem There.of_own {w : World} {base hi : Nat} {A : Option Addr} {c : Nat} {xs : List Int} (h : OwnI w base A c xs) (hh : w.heap.size ≤ hi) : There base hi w A xs.length := fun hn => by
  obtain ⟨_, h1⟩ := h
  rcases h1 with ⟨e, h0⟩ | ⟨g, cap, cur, e, hg, hb, hnc, _, hsz, _⟩
  · omega
  · have e1 : A = some ⟨g, 0, none⟩ := by injection e
    have hlt : g < w.heap.size := by
      rcases Nat.lt_or_ge g w.heap.size with h | h
      · exact h
      · rw [Array.getElem?_eq_none h] at hb; cases hb
    refine ⟨g, e1, hg, by omega, fun i hi => ⟨?_, ?_⟩⟩
    · have : i < cur.size := by rw [hsz]; omega
      exact ⟨cur[i], by simp [World.cell?, hb, this]⟩
    · simp [World.frozen?, hb]
set_option maxHeartbeats 1600000 in
theorem c_markAny (lo hi : Nat) (A : Option Addr) (n c : Nat) (k : Int) (w : World) (h : There lo hi w A n) (hn : n ≤ 10000000) (h0 : 0 ≤ k) (h1 : k ≤ 1000000000) :
    Calls Tryd.prog 45 #[.slice A n c, .int .i64 k] w fun e w' => e = .returned (.int .i64 (k + (n : Int))) ∧ Wr lo hi w w' := by
  have HT := Lib.hid h
  clear h
  go_enter Tryd.func45, Tryd.ntmps45
  go_wp2_with fail
  go_loopg [1, 5] n (fun mm a i wx => ∃ (j : Nat) (wz : World), wz = wx ∧ j ≤ n ∧ mm = n - j ∧ i = .int .i64 j ∧ a = .int .i64 (k + (j : Int)) ∧ Hid (Wr lo hi w wz))
  case atStart => exact ⟨0, _, rfl, Nat.zero_le _, rfl, rfl, by simp, Lib.hid (Wr.refl _ _ _)⟩
  case round =>
    obtain ⟨j, wz, rfl, hj, rfl, rfl, rfl, hw⟩ := hrel
    by_cases hlt : j < n
    · have hltI : (j : Int) < (n : Int) := by omega
      obtain ⟨b, rfl, hb1, hb2, hc⟩ := HT.out.wr hw.out (by omega)
      obtain ⟨⟨u, hu⟩, hf⟩ := hc j hlt
      have hw2 : Hid (Wr lo hi w (wz.setCell ⟨b, j, none⟩ (.int .i64 (k + (j : Int))))) := Lib.hid (hw.out.trans (Wr.set hb1 hb2 _))
      clear hc
      go_wp2_with fail
      go_roundg (n - (j + 1))
      case measure => omega
      case rel => exact ⟨j + 1, _, rfl, by omega, rfl, by go_num, by go_num, hw2⟩
    · obtain rfl : j = n := by omega
      go_wp2_with fail
      go_ret
      exact ⟨rfl, hw.out⟩
set_option maxRecDepth 100000 in
set_option maxHeartbeats 1600000 in
theorem c_markClaimS (base hi g n : Nat) (es : List El) (k : Int) (w : World) (h : OwnE 2 2 47 w base g n es) (hg : g < hi) (hT : ∀ e ∈ es, ∀ r ∈ e.rs, There (g + 1) hi w r.A r.xs.length) (hn : n ≤ 1048576) (ht : tots es ≤ 1048576) (h0 : 0 ≤ k) (h1 : k ≤ 1000000) :
    Calls Tryd.prog 28 #[.slice (some ⟨g, 0, none⟩) n n, .int .i64 k] w fun e w' => e = .returned (.int .i64 (k + 2 * (n : Int) + (tots es : Int))) ∧ Wr g hi w w' := by
  have HO := Lib.hid h
  have HL : Hid (es.length = n) := Lib.hid h.len
  have HT := Lib.hid hT
  clear h hT
  obtain ⟨R, hR⟩ : ∃ R, Hid (k + 2 * (n : Int) + (tots es : Int) = R) := ⟨_, Lib.hid rfl⟩
  rw [hR.out]
  go_enter Tryd.func28, Tryd.ntmps28
  go_wp2_with fail
  go_loopg [1, 5] n (fun mm a i wx => ∃ (j : Nat) (x : Int) (wz : World), wz = wx ∧ j ≤ n ∧ mm = n - j ∧ i = .int .i64 j ∧ a = .int .i64 x ∧ Hid (x = k + 2 * (j : Int) + (tots (es.take j) : Int)) ∧ Hid (Wr g hi w wz) ∧ Hid (∀ j e, es[j]? = some e → ∀ i u, 2 ≤ i → e.cells[i]? = some u → wz.cell? ⟨g, j * 4 + i, none⟩ = some u))
  case atStart =>
    refine ⟨0, k, _, rfl, Nat.zero_le _, rfl, rfl, rfl, Lib.hid (by simp [tots]), Lib.hid (Wr.refl _ _ _), Lib.hid (fun j e he i u _ hu => ?_)⟩
    have := HO.out.rd
    have hj : j < n := by rw [← HL.out]; exact (List.getElem?_eq_some_iff.1 he).1
    obtain ⟨b, off, e1, _, h2⟩ := this.cell (by omega)
    injection e1 with e1
    injection e1 with e1 e2
    subst e1 e2
    have := h2 j e he i u hu
    simpa using this
  case round =>
    obtain ⟨j, x, wz, rfl, hj, rfl, rfl, rfl, hx, hw, hs⟩ := hrel
    by_cases hlt : j < n
    · have hltI : (j : Int) < (n : Int) := by omega
      obtain ⟨b, off, i1, i2, A1, c1, xs, A2, c2, ys, e1, _, he, _, _, q0, q1, q2, q3⟩ := HO.out.rd.claim hlt
      injection e1 with e1
      injection e1 with e1 e2
      subst e1 e2
      rw [Nat.zero_add] at q0 q1
      have T1 : Hid (There (g + 1) hi w A1 xs.length) := Lib.hid (HT.out _ (List.mem_of_getElem? he) ⟨A1, c1, xs⟩ (by simp))
      have T2 : Hid (There (g + 1) hi w A2 ys.length) := Lib.hid (HT.out _ (List.mem_of_getElem? he) ⟨A2, c2, ys⟩ (by simp))
      obtain ⟨u0, k0⟩ := hw.out.kept _ _ q0
      obtain ⟨u1, k1⟩ := hw.out.kept _ _ q1
      have k2 : wz.cell? ⟨g, j * 4 + 2, none⟩ = some (.slice A1 xs.length c1) := hs.out j _ he 2 _ (by decide) rfl
      have k3 : wz.cell? ⟨g, j * 4 + 3, none⟩ = some (.slice A2 ys.length c2) := hs.out j _ he 3 _ (by decide) rfl
      have f0 : ∀ o, wz.frozen? ⟨g, o, none⟩ = false := fun o => (hw.out.fz _).trans (HO.out.row.frozen o)
      have htk : Hid (tots (es.take (j + 1)) = tots (es.take j) + (xs.length + ys.length)) := Lib.hid (by rw [tots_succ he]; simp [El.tot])
      have htl : xs.length + ys.length ≤ 1048576 := by
        have := tots_mem (List.mem_of_getElem? he)
        simp [El.tot] at this
        omega
      have htt : tots (es.take j) ≤ 1048576 := by
        have h3 : tots (es.take j) + tots (es.drop j) = tots es := by
          unfold tots
          rw [← List.sum_append, ← List.map_append, List.take_append_drop]
        omega
      have hx0 : 0 ≤ x := by have := hx.out; omega
      have hx1 : x ≤ 10000000 := by have := hx.out; omega
      clear q0 q1 q2 q3 he
      go_wp2_with fail
      have W1 : Hid (Wr g hi w ((wz.setCell ⟨g, j * 4, none⟩ (.int .i64 x)).setCell ⟨g, j * 4 + 1, none⟩ (.int .i64 (x + 1)))) := Lib.hid ((hw.out.trans (Wr.set (a := ⟨g, j * 4, none⟩) (Nat.le_refl g) (show g < hi by omega) _)).trans (Wr.set (a := ⟨g, j * 4 + 1, none⟩) (Nat.le_refl g) (show g < hi by omega) _))
      have S1 : Hid (∀ j' e, es[j']? = some e → ∀ i u, 2 ≤ i → e.cells[i]? = some u → ((wz.setCell ⟨g, j * 4, none⟩ (.int .i64 x)).setCell ⟨g, j * 4 + 1, none⟩ (.int .i64 (x + 1))).cell? ⟨g, j' * 4 + i, none⟩ = some u) := Lib.hid (fun j' e he i u hi hu => by
        have hl : i < 4 := by
          have h5 := (HO.out.fit e (List.mem_of_getElem? he))
          have h6 := El.cells_len h5.1 h5.2
          have h7 := (List.getElem?_eq_some_iff.1 hu).1
          omega
        rw [World.cell?_setCell_other _ _ _ _ (by simp <;> omega), World.cell?_setCell_other _ _ _ _ (by simp <;> omega)]
        exact hs.out j' e he i u hi hu)
      refine (c_markAny (g + 1) hi A1 xs.length c1 (x + 1 + 1) _ ((T1.out.wr W1.out)) (by omega) (by omega) (by omega)).mono ?_
      rintro e w1 ⟨rfl, v1⟩
      have k3' : w1.cell? ⟨g, j * 4 + 3, none⟩ = some (.slice A2 ys.length c2) := by
        rw [v1.cell (.inl (by simp)), World.cell?_setCell_other _ _ _ _ (by simp), World.cell?_setCell_other _ _ _ _ (by simp)]
        exact k3
      have W2 := Lib.hid (W1.out.trans (v1.wide (by omega) (Nat.le_refl _)))
      have S2 : Hid (∀ j' e, es[j']? = some e → ∀ i u, 2 ≤ i → e.cells[i]? = some u → w1.cell? ⟨g, j' * 4 + i, none⟩ = some u) := Lib.hid (fun j' e he i u hi hu => (v1.cell (.inl (by simp))).trans (S1.out j' e he i u hi hu))
      clear k0 k1 k2 k3 f0 hw hs v1 W1 S1
      go_wp2_with fail
      refine (c_markAny (g + 1) hi A2 ys.length c2 (x + 1 + 1 + (xs.length : Int)) _ ((T2.out.wr W2.out)) (by omega) (by omega) (by omega)).mono ?_
      rintro e w2 ⟨rfl, v2⟩
      have W3 := Lib.hid (W2.out.trans (v2.wide (by omega) (Nat.le_refl _)))
      have S3 : Hid (∀ j' e, es[j']? = some e → ∀ i u, 2 ≤ i → e.cells[i]? = some u → w2.cell? ⟨g, j' * 4 + i, none⟩ = some u) := Lib.hid (fun j' e he i u hi hu => (v2.cell (.inl (by simp))).trans (S2.out j' e he i u hi hu))
      have hx2 : Hid (x + 1 + 1 + (xs.length : Int) + (ys.length : Int) = k + 2 * ((j + 1 : Nat) : Int) + (tots (es.take (j + 1)) : Int)) := Lib.hid (by rw [hx.out, htk.out]; push_cast; omega)
      clear v2 W2 S2 hx htk
      go_wp2_with fail
      go_roundg (n - (j + 1))
      case measure => omega
      case rel => exact ⟨j + 1, _, _, rfl, by omega, rfl, by go_num, rfl, hx2, W3, S3⟩
    · obtain rfl : j = n := by omega
      have hf : x = R := by rw [← hR.out, hx.out, List.take_of_length_le (by rw [HL.out]; exact Nat.le_refl _)]
      subst hf
      go_wp2_with fail
      go_ret
      exact ⟨rfl, hw.out⟩
set_option maxHeartbeats 800000 in
theorem c_markProof (base hi g n : Nat) (es : List El) (k : Int) (w : World) (h : OwnE 2 2 47 w base g n es) (hg : g < hi) (hT : ∀ e ∈ es, ∀ r ∈ e.rs, There (g + 1) hi w r.A r.xs.length) (hn : n ≤ 1048576) (ht : tots es ≤ 1048576) (h0 : 0 ≤ k) (h1 : k ≤ 1000000) :
    Calls Tryd.prog 12 #[.agg #[.slice (some ⟨g, 0, none⟩) n n], .int .i64 k] w fun e w' => e = .returned (.int .i64 (k + 2 * (n : Int) + (tots es : Int))) ∧ Wr g hi (w.alloc (.cells #[.slice (some ⟨g, 0, none⟩) n n] 30)) w' := by
  have HM := Lib.hid (fun W (hb : Below w.heap.size w W) => c_markClaimS base hi g n es k W (h.below hb) hg (fun e he r hr => (hT e he r hr).below hb) hn ht h0 h1)
  obtain ⟨R, hR⟩ : ∃ R, k + 2 * (n : Int) + (tots es : Int) = R := ⟨_, rfl⟩
  rw [hR] at HM ⊢
  clear h hT hR
  go_enter Tryd.func12, Tryd.ntmps12
  go_wp2_with fail
  refine (HM.out _ (by go_grown)).mono ?_
  rintro e w1 ⟨rfl, v1⟩
  have V1 := Lib.hid v1
  clear v1 HM
  go_wp2_with fail
  go_ret
  exact ⟨rfl, V1.out⟩
end Go.Proofs.YtcogdogiceokdaaDoor
