/- Draws of codes. -/
/- Draws of codes: the walk. -/
import Derived.Test.YtoeacocijcammaaCur
import Derived.Test.YtoeacocijcammaaCurN
import Derived.Test.YtoeacocijcammaaApp
import Derived.Test.YtoeacocijcammaaMarks
import Derived.Test.YtoeacocijcammaaLlA
import Derived.Deep.DeepCutAuto
import Derived.Deep.WholeRow
import Derived.Deep.CutBlock
import Derived.Deep.LoopGhost
import Derived.StillTailTactics
namespace Go.Proofs.Ytoeacocijcammaa
open Go.RowKit

/-- append of a slice that is read to a slice of the call's own. -/
theorem app_rd {P : Program} {ops : Array Oper} {rest : List Oper} {o : Oper} {a : Act} {Q : Exit → Act → World → Prop} (w : World) (T E : TypeId) (z : Value) (bytes : Nat)
    (hT : P.underlying T = some (.slice E)) (hI : (P.info? E).map (fun i => (i.zero, i.size, i.bytes)) = some (some z, 1, bytes)) (hz : z.cells.size = 1) (hgd : o.guard = none) (s x : Operand)
    (ho : o.op = .call { callee := .builtin .append, args := #[s, x], argTypes := #[T, T] })
    (base : Nat) (g0 n c0 : Nat) (xs : List Value) (hs : a.eval s = .slice (some ⟨g0, 0, none⟩) n c0) (hown : w.ownsRow base E 1 (.slice (some ⟨g0, 0, none⟩) n c0) n xs) (b off m c : Nat) (us : List Value) (hus : us.length = m)
    (hcells : ∀ j u, us[j]? = some u → w.cell? ⟨b, off + j, none⟩ = some u) (hone : ∀ u ∈ us, u.oneCell' = true)
    (hx : a.eval x = .slice (some ⟨b, off, none⟩) m c) (hlen : n + m ≤ 100000000) (hby : bytes ≤ 1000) (hbase : base ≤ w.heap.size)
    (h : ∀ g cap w', w'.ownsRow base E 1 (.slice (some ⟨g, 0, none⟩) (n + m) cap) (n + m) (xs ++ us) → w.grownBy w' (some g0) → wpList P ops Q rest (a.put o.dst (.slice (some ⟨g, 0, none⟩) (n + m) cap)) w') :
    wpList P ops Q (o :: rest) a w := by
  obtain ⟨i, hi, hz0, hz1, hz2⟩ := info_parts hI
  refine wpList_append_own_at w hgd s x T ho base E i z 1 bytes hT hi hz0 hz1 hz2 hz (by decide) _ n xs hs hown ⟨b, off, none⟩ m c us hx (by omega) (fun j u hj => by
    have := hcells j u hj
    simp only [Addr.add]
    split
    · rename_i h0; subst h0; simpa using this
    · exact this) hone (by unfold maxLen; omega) ?_ hbase ?_
  · have : (n + m) * bytes ≤ 100000000 * 1000 := Nat.mul_le_mul hlen hby
    omega
  · intro v' w' h1 h2 h3 h4
    rcases h1.2 with ⟨he, hn⟩ | ⟨g, cap, cur, he, r⟩
    · have := (h3.1 he).1
      cases this
    · subst he
      exact h g cap w' h1 h2
theorem RdV.of_cells {w : World} {b : Nat} {t : TypeId} {us : List Value} (h : w.heap[b]? = some (.cells us.toArray t (0, 0))) : RdV w (some ⟨b, 0, none⟩) us.length us := by
  refine ⟨by simp, fun _ => ⟨b, 0, rfl, fun i u hu => ?_⟩⟩
  simp [World.cell?, h] at hu ⊢
  exact hu
theorem RdI.of_cells {w : World} {b : Nat} {t : TypeId} {xs : List Int} (h : w.heap[b]? = some (.cells (xs.map (Value.int .i64)).toArray t (0, 0))) : RdI w (some ⟨b, 0, none⟩) xs.length xs := by
  have := RdV.of_cells h
  rwa [List.length_map] at this
/-- Some lists of numbers, laid one behind the other. -/
structure Ls (w0 w : World) (N : Nat) (l : List (Nat × List Int)) : Prop where
  size : w.heap.size = N
  below : Below w0.heap.size w0 w
  rd : ∀ p ∈ l, w0.heap.size ≤ p.1 ∧ RdI w (some ⟨p.1, 0, none⟩) p.2.length p.2
theorem Ls.start (w : World) : Ls w w w.heap.size [] := ⟨rfl, Below.refl _ _, fun p hp => by simp at hp⟩
theorem Ls.add {w0 w : World} {N : Nat} {l : List (Nat × List Int)} (h : Ls w0 w N l) (ys : List Int) : Ls w0 (w.alloc (.cells (ys.map (Value.int .i64)).toArray 3)) (N + 1) (l ++ [(N, ys)]) := by
  refine ⟨by rw [← h.size]; simp, h.below.alloc h.below.size _, fun p hp => ?_⟩
  rcases List.mem_append.1 hp with hp | hp
  · exact ⟨(h.rd p hp).1, (h.rd p hp).2.below ((Below.refl _ _).alloc (Nat.le_refl _) _)⟩
  · obtain rfl := List.mem_singleton.1 hp
    rw [← h.size]
    exact ⟨h.below.size, RdI.of_cells (heap_alloc_new _ _)⟩
def litV (p : Nat × List Int) : Value := .slice (some ⟨p.1, 0, none⟩) p.2.length p.2.length
/-- A list of such lists. -/
def Kn (w0 w : World) (N K : Nat) : Prop := w0.heap.size ≤ N ∧ N < w.heap.size ∧
  ∀ k, k < K → ∃ b ys, w0.heap.size ≤ b ∧ w.cell? ⟨N, k, none⟩ = some (.slice (some ⟨b, 0, none⟩) ys.length ys.length) ∧ RdI w (some ⟨b, 0, none⟩) ys.length ys ∧ ys.length ≤ 4
theorem Ls.kn {w0 w : World} {N : Nat} {l : List (Nat × List Int)} (h : Ls w0 w N l) (h4 : ∀ p ∈ l, p.2.length ≤ 4) : Kn w0 (w.alloc (.cells (l.map litV).toArray 22)) N l.length := by
  refine ⟨by rw [← h.size]; exact h.below.size, by rw [← h.size]; simp, fun k hk => ?_⟩
  have hm : l[k] ∈ l := List.getElem_mem hk
  refine ⟨l[k].1, l[k].2, (h.rd _ hm).1, ?_, (h.rd _ hm).2.below ((Below.refl _ _).alloc (Nat.le_refl _) _), h4 _ hm⟩
  have hr : RdV (w.alloc (.cells (l.map litV).toArray 22)) (some ⟨w.heap.size, 0, none⟩) l.length (l.map litV) := by
    have := RdV.of_cells (us := l.map litV) (heap_alloc_new w (.cells (l.map litV).toArray 22))
    rwa [List.length_map] at this
  obtain ⟨_, _, e, _, hc⟩ := hr.at_ hk
  cases e
  have := hc k (litV l[k]) (by simp [hk])
  rw [Nat.zero_add, h.size] at this
  exact this
theorem Kn.grown {w0 w w' : World} {N K g : Nat} (h : Kn w0 w N K) (hg : w.grownBy w' (some g)) (hlt : g < w0.heap.size) : Kn w0 w' N K := by
  obtain ⟨h2, h3, h4⟩ := h
  refine ⟨h2, Nat.lt_of_lt_of_le h3 hg.size, fun k hk => ?_⟩
  obtain ⟨b, ys, hb, hc, hr, hl⟩ := h4 k hk
  refine ⟨b, ys, hb, (World.cell?_of_block (a := ⟨N, k, none⟩) (hg.block N h3 (fun e => by have := Option.some.inj e; omega))).trans hc, RdV.grown hr (fun _ b' off e => by cases e; omega) hg, hl⟩
theorem grown_mid {w wx w' : World} {g : Nat} {row : Option Nat} (h : w.grownBy wx (some g)) (hg : wx.grownBy w' row) (hr : ∀ k, row = some k → w.heap.size ≤ k) : w.grownBy w' (some g) :=
  ⟨hg.os.trans h.os, hg.tape.trans h.tape, hg.output.trans h.output, Nat.le_trans h.size hg.size, fun i hi hne => (hg.block i (Nat.lt_of_lt_of_le hi h.size) (fun e => by have := hr i e.symm; omega)).trans (h.block i hi hne)⟩
theorem grown_of_below {w w' : World} (row : Option Nat) (hb : Below w.heap.size w w') : w.grownBy w' row := ⟨hb.os, hb.tape, hb.output, hb.size, fun k hk _ => hb.block k hk⟩
/-- A list of the draw's own, and the cursor. -/
structure Ds (w wx : World) (g : Nat) (A : Option Addr) (n c : Nat) (bs : List Int) (M : Int) (B : Option Addr) (cap : Nat) (L : List Int) : Prop where
  own : OwnI wx w.heap.size B cap L
  cur : Cur wx g A n c bs M
  grown : w.grownBy wx (some g)
namespace Ds
variable {w wx w' : World} {g n c cap : Nat} {A B : Option Addr} {bs L : List Int} {M M' : Int}
theorem next (h : Ds w wx g A n c bs M B cap L) (hlt : g < w.heap.size) (hc : Cur w' g A n c bs M') (hg : wx.grownBy w' (some g)) : Ds w w' g A n c bs M' B cap L :=
  ⟨own_kept h.own hg (by
    cases e : (Value.slice B L.length cap).ownBlock with
    | none => exact .inl rfl
    | some k => exact .inr (fun e2 => by
        have := Option.some.inj e2
        have := (h.own.lt k e).1
        omega)), hc, grown_trans h.grown hg⟩
theorem alloc (h : Ds w wx g A n c bs M B cap L) (o : Obj) : Ds w (wx.alloc o) g A n c bs M B cap L :=
  ⟨h.own.alloc o, h.cur.below ((Below.refl _ _).alloc (Nat.le_refl _) _), grown_mid h.grown (World.grownBy_alloc wx o none) (fun k e => by cases e)⟩
theorem app (h : Ds w wx g A n c bs M B cap L) (hlt : g < w.heap.size) (hold : 0 < n → ∀ b off, A = some ⟨b, off, none⟩ → b < w.heap.size) {g' cap' : Nat} {L' : List Int}
    (h1 : OwnI w' w.heap.size (some ⟨g', 0, none⟩) cap' L') (h2 : wx.grownBy w' (Value.slice B L.length cap).ownBlock) : Ds w w' g A n c bs M (some ⟨g', 0, none⟩) cap' L' := by
  have hk : ∀ k, (Value.slice B L.length cap).ownBlock = some k → w.heap.size ≤ k := fun k e => (h.own.lt k e).1
  refine ⟨h1, ?_, grown_mid h.grown h2 hk⟩
  obtain ⟨⟨at', seed, hh, r⟩, hr, hf, hne⟩ := h.cur
  have hgx : g < wx.heap.size := Nat.lt_of_lt_of_le hlt h.grown.size
  refine ⟨⟨at', seed, (h2.block g hgx (fun e => by have := hk g e.symm; omega)).trans hh, r⟩, ⟨hr.1, fun hn => ?_⟩, hf, hne⟩
  obtain ⟨b, off, hA, hb, hc⟩ := hr.at_ hn
  have hbw := hold hn b off hA
  exact ⟨b, off, hA, fun i u hu => (World.cell?_of_block (a := ⟨b, off + i, none⟩) (h2.block b hb (fun e => by have := hk b e.symm; omega))).trans (hc i u hu)⟩
theorem nil (h : Ds w wx g A n c bs M B cap L) : Ds w wx g A n c bs M none 0 [] := ⟨⟨rfl, .inl ⟨rfl, rfl⟩⟩, h.cur, h.grown⟩
theorem lit (h : Ds w wx g A n c bs M B cap L) : Ds w (wx.alloc (.cells #[] 3)) g A n c bs M (some ⟨wx.heap.size, 0, none⟩) 0 [] :=
  ⟨own_lit0 wx 3 _ h.grown.size, h.cur.below ((Below.refl _ _).alloc (Nat.le_refl _) _), grown_mid h.grown (World.grownBy_alloc wx _ none) (fun k e => by cases e)⟩
theorem more (h : Ds w wx g A n c bs M B cap L) (hm : M ≤ M') : Ds w wx g A n c bs M' B cap L := ⟨h.own, h.cur.more hm, h.grown⟩
end Ds
theorem Cur.old {w : World} {g : Nat} {A : Option Addr} {n c : Nat} {bs : List Int} {m : Int} (h : Cur w g A n c bs m) : 0 < n → ∀ b off, A = some ⟨b, off, none⟩ → b < w.heap.size := fun h0 b off e => by
  obtain ⟨b', off', hA, hb, _⟩ := h.2.1.at_ h0
  rw [hA] at e
  injection e with e
  injection e with e1
  omega
end Go.Proofs.Ytoeacocijcammaa
namespace Go.Proofs.Ytoeacocijcammaa
open Go.RowKit

/-- What a draw of a list hands back. -/
def DrawP (w : World) (g : Nat) (A : Option Addr) (n c : Nat) (bs : List Int) (M : Int) (K : Nat) (e : Ending) (w' : World) : Prop :=
  ∃ B cap L, e = .returned (.slice B L.length cap) ∧ L.length ≤ K ∧ Ds w w' g A n c bs M B cap L
set_option maxRecDepth 100000 in
set_option maxHeartbeats 6400000 in
theorem c_l17DrawCode (g : Nat) (A : Option Addr) (n c : Nat) (bs : List Int) (m : Int) (w : World) (hc : Cur w g A n c bs m) (hm : m ≤ 800000000000) (hn : n ≤ 1099511627776) :
    Calls Try.prog 44 #[.pointer (some ⟨g, 0, none⟩)] w (DrawP w g A n c bs (m + 100) 8) := by
  have HOld := Lib.hid hc.old
  have gne : g < w.heap.size := hc.lt
  have Hc := Lib.hid hc
  clear hc
  go_enter Try.func44, Try.ntmps44
  go_upto_region 1 with fail
  go_cut [3] (fun v wx => ∃ (N : Nat) (wy : World), wy = wx ∧ v = .slice (some ⟨N, 0, none⟩) 15 15 ∧ Hid (Kn w wy N 15) ∧ Hid (Below w.heap.size w wy))
  case first =>
    go_wp2_with fail
    go_meet
    case rel =>
      have hls := (((((((((((((((Ls.start w).add [7, 7]).add [3, 3, 3]).add [0, 7]).add [1, 3, 7]).add [1, 5, 6]).add [3, 3]).add [0, 1, 3, 7]).add [7]).add [1, 6]).add [4, 4, 4]).add [3]).add [0, 0, 0, 7]).add [3, 5, 6]).add [6]).add [1, 2, 5, 4]
      have hkn := hls.kn (by simp)
      exact ⟨_, _, rfl, rfl, Lib.hid hkn, Lib.hid (hls.below.alloc hls.below.size _)⟩
  case rest =>
    obtain ⟨N, wy, rfl, rfl, hkn, hb⟩ := hcut
    have hD : Hid (Ds w (wy.alloc (.cells #[] 3)) g A n c bs m (some ⟨wy.heap.size, 0, none⟩) 0 []) := Lib.hid
      ⟨own_lit0 wy 3 _ hb.out.size, (Hc.out.below hb.out).below ((Below.refl _ _).alloc (Nat.le_refl _) _), grown_of_below _ (hb.out.alloc hb.out.size _)⟩
    have HP := Lib.hid (c_pick 15 g A n c bs m _ hD.out.cur (by omega) hn (by decide) (by decide))
    go_wp2_with fail
    refine HP.out.mono ?_
    rintro e w1 ⟨k, rfl, k0, k1, hc1, gr1⟩
    obtain ⟨k, rfl⟩ := Int.eq_ofNat_of_zero_le k0
    have hk15 : k < 15 := by omega
    have hkn1 := (Kn.grown (w' := w1) (by
      obtain ⟨h2, h3, h4⟩ := hkn.out
      have b1 : Below wy.heap.size wy (wy.alloc (.cells #[] 3)) := (Below.refl _ _).alloc (Nat.le_refl _) _
      exact (⟨h2, Nat.lt_of_lt_of_le h3 b1.size, fun k hk => by
        obtain ⟨b, ys, q1, q2, q3, q4⟩ := h4 k hk
        exact ⟨b, ys, q1, (b1.cell (show N < _ from h3)).trans q2, q3.below b1, q4⟩⟩ : Kn w (wy.alloc (.cells #[] 3)) N 15)) gr1 gne)
    obtain ⟨b, ys, hbw, hcv, hry, hy4⟩ := hkn1.2.2 k hk15
    have hD1 := Lib.hid (hD.out.next gne hc1 gr1)
    have hcells : Hid (∀ j u, (ys.map (Value.int .i64))[j]? = some u → w1.cell? ⟨b, 0 + j, none⟩ = some u) := Lib.hid (fun j u hj => by
      have hjl : j < ys.length := by
        rcases Nat.lt_or_ge j ys.length with h1 | h1
        · exact h1
        · rw [List.getElem?_eq_none (by simpa using h1)] at hj; cases hj
      obtain ⟨_, _, e, _, hq⟩ := RdV.at_ hry hjl
      cases e
      exact hq j u hj)
    have hw1 : w.heap.size ≤ w1.heap.size := hD1.out.grown.size
    have hi1 : (k : Int) < 15 := by omega
    clear hkn hkn1 hb hD HP hc1 gr1 hry hbw Hc
    go_wp2_with (at_builtin; refine app_rd _ 22 3 (.int .i64 0) 8 Try.underlying22 hI_int rfl rfl (.tmp 22) (.tmp 29) rfl w.heap.size _ 0 0 [] rfl hD1.out.own b 0 ys.length ys.length (ys.map (Value.int .i64)) (by simp) hcells.out (by intro u hu; obtain ⟨y, _, rfl⟩ := List.mem_map.1 hu; rfl) rfl (by omega) (by omega) hw1 ?_; intro g2 cap2 w2 h1 h2)
    have hD2 := Lib.hid (hD1.out.app gne HOld.out (L' := ys) (by simpa using h1) h2)
    clear h1 h2 hD1 hcells hcv hi1
    refine (c_one 4 g A n c bs _ _ hD2.out.cur (by omega) hn (by decide) (by decide)).mono ?_
    rintro e w3 ⟨x, rfl, hc3, gr3⟩
    have hD3 := Lib.hid (hD2.out.next gne hc3 gr3)
    clear hD2 hc3 gr3
    go_upto_if 32 with fail
    go_cut [4] (fun v wx => ∃ B cap L wz, wz = wx ∧ v = .slice B L.length cap ∧ L.length ≤ 4 ∧ Hid (Ds w wz g A n c bs (m + 40) B cap L))
    case first =>
      cases x
      · go_wp2_with fail
        go_meet
        case rel => exact ⟨_, _, ys, _, rfl, rfl, hy4, Lib.hid (hD3.out.more (by omega))⟩
      · have hD4 := Lib.hid hD3.out.lit
        have HP := Lib.hid (c_pick 4 g A n c bs _ _ hD4.out.cur (by omega) hn (by decide) (by decide))
        go_wp2_with fail
        refine HP.out.mono ?_
        rintro e w4 ⟨y, rfl, y0, y1, hc4, gr4⟩
        obtain ⟨y, rfl⟩ := Int.eq_ofNat_of_zero_le y0
        have hy3 : y ≤ 3 := by omega
        have hD5 := Lib.hid (hD4.out.next gne hc4 gr4)
        clear hD4 HP hc4 gr4 hD3
        go_wp2_with fail
        go_loopg [4, 5] (y + 1) (fun mm o i wx => ∃ (k : Nat) (B : Option Addr) (cap : Nat) (L : List Int) (wz : World), wz = wx ∧ mm = k ∧ k ≤ 4 ∧ i = .int .i64 k ∧ o = .slice B L.length cap ∧ L.length + k ≤ 4 ∧ Hid (Ds w wz g A n c bs (m + 20 - 2 * (k : Int)) B cap L))
        case atStart => exact ⟨y + 1, _, _, [], _, rfl, rfl, by omega, by go_num, rfl, by simp; omega, Lib.hid (hD5.out.more (by omega))⟩
        case round =>
          obtain ⟨kk, B, cap, L, wz, rfl, hmk, hk4, rfl, rfl, hLk, hD⟩ := hrel
          clear hD5
          by_cases h0 : 0 < kk
          · have h0i : (0 : Int) < (kk : Int) := by omega
            have HP := Lib.hid (c_pick 8 g A n c bs _ _ hD.out.cur (by omega) hn (by decide) (by decide))
            go_wp2_with fail
            refine HP.out.mono ?_
            rintro e w5 ⟨z, rfl, z0, z1, hc5, gr5⟩
            have hD6 := Lib.hid (hD.out.next gne hc5 gr5)
            have hw5 : w.heap.size ≤ w5.heap.size := hD6.out.grown.size
            clear HP hc5 gr5
            go_wp2_with (at_builtin; refine app1 _ 22 3 (.int .i64 0) 8 Try.underlying22 hI_int rfl rfl (.tmp 41) (.tmp 44) rfl w.heap.size _ _ _ rfl hD6.out.own (.int .i64 z) rfl rfl (by omega) (by omega) hw5 ?_; intro g' cap' w' h1 h2 h3)
            have hD7 := Lib.hid (hD6.out.app gne HOld.out (g' := g') (cap' := cap') (L' := L ++ [z]) (by unfold OwnI; rw [List.length_append, List.map_append]; exact h1) h2)
            clear h1 h2 h3 hD6
            go_roundg (kk - 1)
            case measure => omega
            case rel => exact ⟨kk - 1, _, _, L ++ [z], _, rfl, rfl, by omega, by go_num, by simp, by simp; omega, Lib.hid (hD7.out.more (by omega))⟩
          · obtain rfl : kk = 0 := by omega
            go_wp2_with fail
            go_meet
            case rel => exact ⟨B, cap, L, _, rfl, rfl, by omega, Lib.hid (hD.out.more (by omega))⟩
    case rest =>
      clear hD3 hy4
      obtain ⟨B, cap, L, wz, rfl, rfl, hL4, hD⟩ := hcut
      have HP := Lib.hid (c_one 12 g A n c bs _ _ hD.out.cur (by omega) hn (by decide) (by decide))
      go_wp2_with fail
      refine HP.out.mono ?_
      rintro e w4 ⟨x, rfl, hc4, gr4⟩
      have hD4 := Lib.hid (hD.out.next gne hc4 gr4)
      clear hD hc4 gr4 HP
      go_upto_if 47 with fail
      go_cut [4] (fun v wx => ∃ B cap L wz, wz = wx ∧ v = .slice B L.length cap ∧ L.length ≤ 8 ∧ Hid (Ds w wz g A n c bs (m + 100) B cap L))
      case first =>
        cases x
        · go_wp2_with fail
          go_meet
          case rel => exact ⟨_, _, L, _, rfl, rfl, by omega, Lib.hid (hD4.out.more (by omega))⟩
        · have HP := Lib.hid (c_pick 3 g A n c bs _ _ hD4.out.cur (by omega) hn (by decide) (by decide))
          go_wp2_with fail
          refine HP.out.mono ?_
          rintro e w5 ⟨y, rfl, y0, y1, hc5, gr5⟩
          have hD5 := Lib.hid (hD4.out.next gne hc5 gr5)
          clear hD4 HP hc5 gr5
          rcases (show y = 0 ∨ y = 1 ∨ y = 2 by omega) with rfl | rfl | rfl
          · have bA : Below w5.heap.size w5 (w5.alloc (.cells ([(0 : Int), 8, -1].map (Value.int .i64)).toArray 3)) := (Below.refl _ _).alloc (Nat.le_refl _) _
            have hr1 : RdI (w5.alloc (.cells ([(0 : Int), 8, -1].map (Value.int .i64)).toArray 3)) (some ⟨w5.heap.size, 0, none⟩) 3 [0, 8, -1] := RdI.of_cells (heap_alloc_new _ _)
            have hg5 : g < w5.heap.size := Nat.lt_of_lt_of_le gne hD5.out.grown.size
            have hDA := Lib.hid (hD5.out.alloc (.cells ([(0 : Int), 8, -1].map (Value.int .i64)).toArray 3))
            have HA := Lib.hid (c_among (some ⟨w5.heap.size, 0, none⟩) 3 [0, 8, -1] (by decide) (by decide) g (fun b off e => by injection e with e; injection e with e; omega) A n c bs _ _ hr1 hDA.out.cur (by omega) hn)
            clear hr1 bA hD5
            go_wp2_with fail
            refine HA.out.mono ?_
            rintro e w6 ⟨z, rfl, hz, hc6, gr6⟩
            have hD6 := Lib.hid (hDA.out.next gne hc6 gr6)
            have hw6 : w.heap.size ≤ w6.heap.size := hD6.out.grown.size
            clear HA hc6 gr6 hDA
            go_wp2_with (at_builtin; refine app1 _ 22 3 (.int .i64 0) 8 Try.underlying22 hI_int rfl rfl (.tmp 52) (.tmp 56) rfl w.heap.size _ _ _ rfl hD6.out.own (.int .i64 z) rfl rfl (by omega) (by omega) hw6 ?_; intro g' cap' w' h1 h2 h3)
            have hD7 := Lib.hid (hD6.out.app gne HOld.out (g' := g') (cap' := cap') (L' := L ++ [z]) (by unfold OwnI; rw [List.length_append, List.map_append]; exact h1) h2)
            clear h1 h2 h3 hD6
            go_wp2_with fail
            go_meet
            case rel => exact ⟨_, _, L ++ [z], _, rfl, by simp, by simp; omega, Lib.hid (hD7.out.more (by omega))⟩
          · go_wp2_with fail
            go_meet
            case rel => exact ⟨none, 0, [], _, rfl, rfl, by simp, Lib.hid (hD5.out.nil.more (by omega))⟩
          · go_wp2_with fail
            go_loopg [4] (8 - L.length) (fun mm o wx => ∃ (B : Option Addr) (cap : Nat) (L : List Int) (wz : World), wz = wx ∧ mm = 8 - L.length ∧ o = .slice B L.length cap ∧ L.length ≤ 7 ∧ Hid (Ds w wz g A n c bs (m + 60 + 4 * (L.length : Int)) B cap L))
            case atStart => exact ⟨_, _, L, _, rfl, rfl, rfl, by omega, Lib.hid (hD5.out.more (by omega))⟩
            case round =>
              clear hD5 hL4
              obtain ⟨B, cap, L, wz, rfl, hmk, rfl, hL7, hD⟩ := hrel
              have HP := Lib.hid (c_pick 2 g A n c bs _ _ hD.out.cur (by omega) hn (by decide) (by decide))
              go_wp2_with fail
              refine HP.out.mono ?_
              rintro e w5 ⟨z, rfl, z0, z1, hc5, gr5⟩
              have hD6 := Lib.hid (hD.out.next gne hc5 gr5)
              clear HP hc5 gr5 hD
              by_cases hlt : (L.length : Int) < 6 + z
              · have HP := Lib.hid (c_pick 7 g A n c bs _ _ hD6.out.cur (by omega) hn (by decide) (by decide))
                go_wp2_with fail
                refine HP.out.mono ?_
                rintro e w6 ⟨u, rfl, u0, u1, hc6, gr6⟩
                have hD7 := Lib.hid (hD6.out.next gne hc6 gr6)
                have hw6 : w.heap.size ≤ w6.heap.size := hD7.out.grown.size
                clear HP hc6 gr6 hD6
                go_wp2_with (at_builtin; refine app1 _ 22 3 (.int .i64 0) 8 Try.underlying22 hI_int rfl rfl (.tmp 68) (.tmp 72) rfl w.heap.size _ _ _ rfl hD7.out.own (.int .i64 (1 + u)) rfl rfl (by omega) (by omega) hw6 ?_; intro g' cap' w' h1 h2 h3)
                have hD8 := Lib.hid (hD7.out.app gne HOld.out (g' := g') (cap' := cap') (L' := L ++ [1 + u]) (by unfold OwnI; rw [List.length_append, List.map_append]; exact h1) h2)
                clear h1 h2 h3 hD7
                go_roundg (8 - (L.length + 1))
                case measure => omega
                case rel => exact ⟨_, _, L ++ [1 + u], _, rfl, by simp, by simp, by simp; omega, Lib.hid (hD8.out.more (by simp; omega))⟩
              · go_wp2_with fail
                go_meet
                case rel => exact ⟨B, cap, L, _, rfl, rfl, by omega, Lib.hid (hD6.out.more (by omega))⟩
      case rest =>
        clear hD4 hL4
        obtain ⟨B, cap, L, wz, rfl, rfl, hL8, hD⟩ := hcut
        go_wp2_with fail
        exact bodyPost_ret (results_tmp rfl _ _ _) rfl ⟨B, cap, L, rfl, hL8, hD.out⟩
end Go.Proofs.Ytoeacocijcammaa
